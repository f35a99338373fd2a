/- Joined: WCacF to WRef7d -/
import Derived.Shelf.SlSortCmp.Whole1
import Derived.Test.YtonlbpljghohmaaGreatDoorCWWJrnI
set_option linter.all false
set_option maxRecDepth 100000
set_option maxHeartbeats 8000000
namespace Go.Proofs.YtonlbpljghohmaaGreatDoor
open Tryz
section
open Go.Shelf Go.RowKit Go.Lib Go.Sort
open Go.RowKit
shelf_lay_g SlLaysF.n6 Slsf 6 at Tryz 317 as Tryz.sortInt
theorem IW(B mb:Nat)(m:List (Nat×Value))(w:World)(hb:Boxed w B 251 (.map (some mb)))(hm:de w mb m)(hlen:m.length≤1000000):
  Calls prog 289 #[.func (.func 291) #[] #[.pointer (some ⟨B,0,none⟩)]] w fun e w' =>
   ∃(v:Value) (ks:List Nat),e=.returned v∧ks.Perm (m.map (·.1))∧w'.ownsRow w.heap.size 3 1 v ks.length (ks.map dX)∧Q w w':=by
 have ha:=Pz B mb m w hb hm hlen;have HA:=Hd ha;clear ha hb hm;go_enter func289,ntmps289;go_wp2_with fail;refine HA.out.mono ?_;rintro e w1 ⟨v,ks,rfl,hp,ho,q⟩;have HP:=Hd hp;have HO:=Hd ho;have HQ:=Hd q;clear hp ho q;go_wp2_with fail;go_ret;exact⟨_,ks,rfl,HP.out,HO.out,HQ.out⟩
theorem yL{α:Type}[Inhabited α](enc:α→Value)(w:World)(blk off n:Nat)(d:Array α)(os:Array Obj):w.grownBy (sortWorld enc w blk off n d os) (some blk):=by
 have hs:(Go.Sort.putRow enc (Go.Sort.ahead w n) blk off d).heap.size=w.heap.size:=by rw[Go.Sort.size_putRow];rfl
 refine⟨rfl,rfl,rfl,?_,fun k hk aU=>?_⟩
 ·unfold sortWorld
  rw[Go.Sort.size_grow];omega
 ·have hb:blk≠k:=fun e=>aU (by rw[e])
  show((Go.Sort.putRow enc (Go.Sort.ahead w n) blk off d).heap++os)[k]?=w.heap[k]?;rw[ada U];show(w.heap.modify blk _)[k]?=w.heap[k]?;rw[VV,η hb]
theorem PD(w:World)(F:Nat→Prop)(bc cb p most clock:Nat)(ms:Int)(mb:Nat)(m:bU)(h:cj w F cb p most clock ms mb m)(hk:(m.map (·.1)).Nodup)(hb:w.cell? ⟨bc,0,none⟩=some (au cb))(x y:Nat×gq)(hx:x∈m)(hy:y∈m)
  (hu:∀z∈m,z.2.used≤2000000000000000000) :
  Calls prog 301 #[dX x.1,dX y.1,.pointer (some ⟨bc,0,none⟩)] w fun e w'=>e=.returned (.int .i64 ((y.2.used:Int)-(x.2.used:Int)))∧∃q,w'=w.drewN q:=by
 have c4:=h.box.cell 4 (.map (some mb)) rfl;have gx:=kL hk (k:=x.1) (v:=x.2) hx;have gy:=kL hk (k:=y.1) (v:=y.2) hy;have ux:=hu x hx;have uy:=hu y hy;have dx:=(h.kept x hx).1.cell 3 (.int .i64 (x.2.used:Nat)) rfl;have dy:=(h.kept y hy).1.cell 3 (.int .i64 (y.2.used:Nat)) rfl;have lx:=uH (P:=prog) (w:=w.drew) (h.keep (Q.drew w)).map 251 3 257 underlying251 underlying3 (.pointer none) (l6 _) x.1 false;have ly:=uH (P:=prog) (w:=w.drew) (h.keep (Q.drew w)).map 251 3 257 underlying251 underlying3 (.pointer none) (l6 _) y.1 false;simp only[N0,PR] at lx ly;rw[h.ij gx] at lx;rw[h.ij gy] at ly;clear h gx gy hu hk hx hy;obtain⟨x1,xp,xd,xb,xu⟩:=x;obtain⟨y1,yp,yd,yb,yu⟩:=y;simp only at *;go_enter func301,ntmps301;go_wp2_with fail;go_region;all_goals
  go_wp2_with fail;go_ret;exact⟨rfl,1,rfl⟩
abbrev my(m:bU):={ x:Nat×gq // x∈m }
def wX{m:bU}(x:my m):Value:=dX x.1.1
def Iu{m:bU}(x y:my m):Int:=(y.1.2.used:Int)-(x.1.2.used:Int)
theorem EV(m:bU):Go.Sort.SWO (ltOf (Iu (m:=m))):=by
 refine⟨fun x=>by simp[ltOf,Iu],fun x y z h1 h2=>?_,fun x y z h1 h2=>?_⟩
 ·unfold ltOf Iu at *
  have h1:=Tl h1;have h2:=Tl h2;exact NO U
 ·unfold ltOf Iu at *
  have h1:=aer h1;have h2:=aer h2;exact Nx U
theorem Qn{w:World}{g n cap size:Nat}{xs:List Value}(h:Sl w (.slice (some ⟨g,0,none⟩) n cap) n size xs)(hn:0<n)(j:Nat)(u:Value)(hj:xs[j]?=some u):w.cell? ⟨g,j,none⟩=some u:=by
 obtain⟨_,a,c,hv,cO⟩:=h;obtain⟨b2,off,rfl,dI⟩:=cO hn;have h2:=dI j u hj;simp only[Value.slice.injEq,N6,Addr.mk.injEq] at hv;obtain⟨⟨rfl,rfl,_⟩,_⟩:=hv;rwa [PF] at h2
def Iw(m:bU):(ks:List Nat)→(∀k∈ks,k∈m.map (·.1))→List (my m)
 | [],_=>[]
 | k::ks,h=>⟨(k,(bC k m).get (by
   cases hg:bC k m with
   | some v=>rfl
   | none =>
    obtain⟨x,hx,e⟩:=NF.1 (h k (Nm ..))
    exact absurd e (oK.1 hg x hx))),gH (Option.some_get _).symm⟩::Iw m ks (fun j hj=>h j (M1 _ hj))
theorem Aq(m:bU):∀(ks:List Nat) (h:∀k∈ks,k∈m.map (·.1)),(Iw m ks h).map (fun x=>x.1.1)=ks
 | [],_=>rfl
 | k::ks,h=>by rw[Iw,On,Aq m ks]
theorem Qo(w:World)(F:Nat→Prop)(bc cb p most clock:Nat)(ms:Int)(mb:Nat)(m:bU)(base:Nat)(v:Value)(ks:List Nat)(h:cj w F cb p most clock ms mb m)(hk:(m.map (·.1)).Nodup)(hb:Boxed w bc 167 (au cb))(hu:∀z∈m,z.2.used≤2000000000000000000)
  (ho:w.ownsRow base 3 1 v ks.length (ks.map dX)) (zB:∀k∈ks,k∈m.map (·.1)) (hn:0<ks.length) (hlen:ks.length≤1000000) (hF:∀k,F k→k<base) (hbc:bc<base) :
  Calls prog 317 #[v,.func (.func 301) #[] #[.pointer (some ⟨bc,0,none⟩)]] w fun e w'=>e=.returned (.tuple #[])∧∃(g cap:Nat) (ks':List Nat),v=.slice (some ⟨g,0,none⟩) ks.length cap∧base≤g∧ks'.Perm ks∧(∀i (hi:i<ks'.length),w'.cell? ⟨g,i,none⟩=some (dX ks'[i]))∧w.grownBy w' (some g)∧g<w'.heap.size:=by
 have aU:Nonempty (my m):=by
  obtain⟨x,hx,_⟩:=NF.1 (zB ks[0] (MA hn));exact⟨⟨x,hx⟩⟩
 haveI:Inhabited (my m):=⟨Classical.choice aU⟩;rcases ho.2 with ⟨_,hz⟩|⟨g,cap,cur,rfl,lF,hg,RX,_⟩
 ·omega
 ·have bX:=Sl.cy ho
  obtain⟨d,hd⟩:∃d:Array (my m),d=(Iw m ks zB).toArray:=⟨_,rfl⟩;have Za:d.size=ks.length:=by
   have:=RE List.length (Aq m ks zB);rw[OK] at this;rw[hd];simpa using this
  have zC:∀j (hj:j<d.size),(d[j]!).1.1=ks[j]'(by rw[←Za];exact hj):=fun j hj=>by
   have e:=Aq m ks zB;have xR:j<(Iw m ks zB).length:=by rw[hd] at hj;simpa using hj
   rw[aaj d j hj];subst hd;have:=List.getElem_of_eq e (by simpa using xR:j<((Iw m ks zB).map (fun x=>x.1.1)).length)
   simpa using this
  have hH:Go.Sort.Holds wX w g 0 d:=fun j hj=>by
   have xR:j<ks.length:=by rw[←Za];exact hj
   have hc:=Qn bX hn j (dX ks[j]) (by simp[xR])
   rw[PF];refine⟨by rw[hc];unfold wX;rw[zC j hj],?_⟩
   have:Blk w g 3 cur:=hg;exact this.frozen j
  have aia:CmpLays1 prog 301 #[.pointer (some ⟨bc,0,none⟩)] (wX (m:=m)) (Iu (m:=m)) g 0 d.size w:=CmpReads.lays (fun mm os dk zC x y=>by
   have oW:=yL (wX (m:=m)) w g 0 mm dk os;have ht:ae (fun k=>k=g) w (sortWorld (wX (m:=m)) w g 0 mm dk os):=cj.eL oW
   have h2:=h.beside ht (fun k hk e=>by have:=hF k hk;omega)
   have Du:¬bc=g:=U;have bN:(sortWorld (wX (m:=m)) w g 0 mm dk os).cell? ⟨bc,0,none⟩=some (au cb):=ht.cell hb.cell Du;exact PD _ F bc cb p most clock ms mb m h2 hk bN x.1 y.1 x.2 y.2 hu)
  have hs:=Any.slices_SortFunc Tryz.sortInt (wX (m:=m)) (fun _=>rfl) (Iu (m:=m)) (EV m) 301 #[.pointer (some ⟨bc,0,none⟩)] g 0 cap d w (enters_of func301 (by kernel_rfl) rfl) aia hH (aJ hg) U
  rw[Za] at hs;change Calls prog 317 _ _ _ at hs;refine hs.mono ?_;rintro e w' ⟨rfl,d',n,os,hp,_,rfl⟩;have acV:d'.size=d.size:=hp.1;refine⟨rfl,g,cap,d'.toList.map (fun x=>x.1.1),rfl,lF,?_,fun i hi=>?_,yL (wX (m:=m)) w g 0 n d' os,?_⟩
  ·have h3:=hp.2.2
   have e1:(d'.extract 0 ks.length).toList=d'.toList:=by rw[←Za,←acV];simp
   have e2:(d.extract 0 ks.length).toList=d.toList:=by rw[←Za];simp
   rw[e1,e2] at h3;have h4:=h3.map (fun x=>x.1.1)
   have h5:d.toList.map (fun x=>x.1.1)=ks:=by rw[hd];exact Aq m ks zB
   rw[h5] at h4;exact h4
  ·have pK:i<d'.size:=by simpa using hi
   have hh:=(holds_sortWorld wX w g 0 n d d' os (aJ hg) hH acV i pK).1;rw[PF] at hh;rw[hh,aaj d' i pK];simp[wX]
  ·have:=(yL (wX (m:=m)) w g 0 n d' os).size
   exact Ψ (aJ hg) this
theorem MH(w:World)(F:Nat→Prop)(bc B cb p most clock:Nat)(ms:Int)(mb:Nat)(m:bU)(h:cj w F cb p most clock ms mb m)(hk:(m.map (·.1)).Nodup)(hb:Boxed w bc 167 (au cb))(hB:Boxed w B 251 (.map (some mb)))(hu:∀z∈m,z.2.used≤2000000000000000000)(hn:0<m.length)(hlen:m.length≤1000000):
  Calls prog 300 #[.func (.func 291) #[] #[.pointer (some ⟨B,0,none⟩)],.func (.func 301) #[] #[.pointer (some ⟨bc,0,none⟩)]] w fun e w' =>
   ∃(g cap:Nat) (ks:List Nat),e=.returned (.slice (some ⟨g,0,none⟩) ks.length cap)∧w.heap.size≤g∧ks.Perm (m.map (·.1))∧(∀i (hi:i<ks.length),w'.cell? ⟨g,i,none⟩=some (dX ks[i]))∧Q w w'∧g<w'.heap.size:=by
 have hc:=IW B mb (mapOf m) w hB h.map (by rw[h.len];exact hlen)
 have Aa:(mapOf m).map (·.1)=m.map (·.1):=by simp[mapOf]
 rw[Aa] at hc;have HC:=Hd hc;have HH:=Hd h;have HB:=Hd hb;have HK:=Hd hk;have HU:=Hd hu;have Yt:=aJ hb;clear hc Aa h hb hB hk hu;go_enter func300,ntmps300;go_wp2_with fail;refine HC.out.mono ?_;rintro e w1 ⟨v,ks,rfl,hp,ho,q⟩;have oq:ks.length=m.length:=by rw[hp.length_eq,OK]
 have cs:=Qo w1 F bc cb p most clock ms mb m w.heap.size v ks (HH.out.keep q) HK.out ((q.block _ Yt).trans HB.out) HU.out ho (fun k hk=>hp.mem_iff.1 hk) U U (fun k hk=>HH.out.lt k hk) Yt
 have HP:=Hd hp;have HQ:=Hd q;have CS:=Hd cs;clear hp ho q cs oq;go_wp2_with fail;refine CS.out.mono ?_;rintro e w2 ⟨rfl,g,cap,ks',rfl,lF,iq,OE,oW,ay⟩;have fF:ks'.length=ks.length:=iq.length_eq;have eG:Q w w2:=Below.trans HQ.out (show Below w.heap.size w1 w2 from⟨oW.os,oW.tape,oW.output,oW.size,fun i hi=>oW.block i (Ψ hi HQ.out.size) (fun e=>by injection e with e;omega)⟩)
 have kX:=Hd iq;have xW:=Hd OE;have bJ:=Hd eG;have HL2:=Hd fF;clear iq OE oW eG fF;go_wp2_with fail;go_ret;exact⟨g,cap,ks',by rw[HL2.out];rfl,lF,kX.out.trans HP.out,xW.out,bJ.out,ay⟩
theorem AI(w:World)(F:Nat→Prop)(cb p most clock:Nat)(ms:Int)(mb:Nat)(m:bU)(h:cj w F cb p most clock ms mb m)(hk:(m.map (·.1)).Nodup)(hu:∀z∈m,z.2.used≤2000000000000000000)(hn:0<m.length)(hlen:m.length≤1000000):
  Calls prog 264 #[au cb] w fun e w' =>
   ∃(g cap:Nat) (ks:List Nat),e=.returned (.slice (some ⟨g,0,none⟩) ks.length cap)∧w.heap.size≤g∧ks.Perm (m.map (·.1))∧(∀i (hi:i<ks.length),w'.cell? ⟨g,i,none⟩=some (dX ks[i]))∧Q w w'∧g<w'.heap.size:=by
 have pR:Q w (w.alloc (.cells #[au cb] 167)):=Q.alloc _ _;have hb1:Boxed (w.alloc (.cells #[au cb] 167)) w.heap.size 167 (au cb):=Boxed.new w _ _;have c4:=(h.keep pR).box.cell 4 (.map (some mb)) rfl;have c0:=hb1.cell;have H1:=Hd (h.keep pR);have Bl:=Hd hb1;have HK:=Hd hk;have HU:=Hd hu;have dF:=Hd pR;clear h hb1 hk hu;go_enter func264,ntmps264;go_wp2_with fail;generalize dO:w.alloc (.cells #[au cb] 167)=wa at *;clear dO;refine(Qm mb wa).mono ?_;rintro e w2 ⟨rfl,gD⟩;have eG:Q wa w2:=by rw[←gD];exact Q.alloc _ _
 have Zb:Boxed w2 wa.heap.size 251 (.map (some mb)):=by rw[←gD];exact Boxed.new wa _ _
 have hsf:=MH w2 F w.heap.size wa.heap.size cb p most clock ms mb m (H1.out.keep eG) HK.out ((eG.block _ (aJ Bl.out)).trans Bl.out) Zb HU.out hn hlen;have HSF:=Hd hsf;have bJ:=Hd eG;clear hsf c4 c0 gD eG Zb;go_wp2_with fail;refine HSF.out.mono ?_;rintro e w3 ⟨g,cap,ks,rfl,lF,hp,OE,q,ay⟩;have HP:=Hd hp;have xW:=Hd OE;have Cr:Q w w3:=dF.out.trans (bJ.out.trans q);have fu:=Hd Cr;have jM:w.heap.size≤g:=My (My dF.out.size bJ.out.size) lF;clear hp OE q Cr;go_wp2_with fail;go_ret;exact⟨g,cap,ks,rfl,jM,HP.out,xW.out,fu.out,ay⟩
end
section
open Go.RowKit
attribute [local go_sem] Oper.semAt_some
theorem Qp(g n cap:Nat)(w:World):
  Calls prog 265 #[.slice (some ⟨g,0,none⟩) n cap] w fun e w'=>e=.returned (.func (.func 302) #[] #[.pointer (some ⟨w.heap.size,0,none⟩)])∧w.alloc (.cells #[.slice (some ⟨g,0,none⟩) n cap] 59)=w':=by
 go_enter func265,ntmps265;go_wp2_with fail;go_ret;exact⟨rfl,rfl⟩
abbrev pC(x:Nat×Nat):Array Value:=#[.int .i64 (x.1:Nat),dX x.2]
def vD(ks:List Nat):List (Nat×Nat):=(List.range ks.length).reverse.map fun i=>(i,ks.getD i 0)
theorem BR(ks:List Nat):(vD ks).length=ks.length:=by simp[vD]
theorem JU(ks:List Nat)(k:Nat)(h:k<ks.length):(vD ks)[k]'(by rw[BR];exact h)=(ks.length-1-k,ks.getD (ks.length-1-k) 0):=by
 simp[vD]
def Qq(ks:List Nat)(k:Nat)(_:World)(args:Array Value)(k2:Nat):Prop:=∃x,(vD ks)[k]?=some x∧args=pC x∧k2=k+1
theorem Qr(B n₀ g cap:Nat)(ks:List Nat)(W:World)(hb:Boxed W B 59 (.slice (some ⟨g,0,none⟩) ks.length cap))(hc:∀i (hi:i<ks.length),W.cell? ⟨g,i,none⟩=some (dX ks[i]))(pV:g<W.heap.size)(hn:n₀≤W.heap.size)(hlen:ks.length≤1000000):
  FA prog 302 #[.pointer (some ⟨B,0,none⟩)] (Qq ks) (fun k=>k=ks.length) (fun _=>False) (fun k=>k=B∨k=g) n₀ 0 W:=by
 intro n l J Jx hJ hJx hY h0;refine callsIn_of_wp func302 rfl trivial ?_ rfl;simp only[ntmps302,UI,Mu,OF,Nat.reduceAdd,Nat.reduceSub,abB,abC,ab2,abN,Pr,PC];have c0:=hb.cell;have eO:IntKind.i64.wrap ((ks.length:Int)-1)=(ks.length:Int)-1:=IntWalk.i64_in _ U;have H0:=Hd h0;have ou:=Hd hb;have HYH:=Hd hY;have HC:=Hd hc;have ah8:=aJ hb;clear h0 hb hY hc;gi_wp2;gi_loopw [3] (fun v wr=>∃(r:Nat) (x:Int),v=.int .i64 x∧x=(r:Int)-1∧r≤ks.length∧Hid (Boxed wr B 59 (.slice (some ⟨g,0,none⟩) ks.length cap))∧Hid (wr.heap[g]?=W.heap[g]?)∧Hid (J (ks.length-r) wr)∧Hid (W.heap.size≤wr.heap.size)) (fun v _=>(intOf v+1).toNat)
 case atStart=>exact⟨ks.length,_,rfl,rfl,Ω _,ou,Hd rfl,by rw[abu];exact H0,Hd (Ω _)⟩
 case round =>
  obtain⟨r,x,rfl,hx,hr,HB,HG,HJ,HZ⟩:=hrel;have d0:=HB.out.cell;cases r with
  | zero =>
   obtain rfl:x = -1:=U;clear hx;gi_wp2;go_end0;exact⟨⟨_,rfl⟩,.inl ⟨_,rfl,HJ.out⟩⟩
  | succ j =>
   obtain rfl:x=(j:Nat):=U;clear hx;have zD:j<ks.length:=U;have Bn:(0:Int)≤(j:Int):=U;have x1:wr.cell? ⟨g,j,none⟩=some (dX ks[j]):=by rw[←HC.out j zD];exact World.cell?_of_block HG.out
   have iN:ks.length-(j+1)<(vD ks).length:=by rw[BR];omega
   have pU:(vD ks)[ks.length-(j+1)]=(j,ks[j]):=by
    rw[JU ks _ U,show ks.length-1-(ks.length-(j+1))=j by omega,Θ,Mp zD];rfl
   have aap:g<wr.heap.size:=Ψ pV HZ.out;generalize hkj:ks[j]=kj at *;clear hkj;obtain⟨fn,tmps,assign,body,hy,hR⟩:=HYH.out (ks.length-(j+1)) (ks.length-(j+1)+1) wr (pC (j,kj)) HJ.out ⟨_,by rw[Mp iN,pU],rfl,rfl⟩ (fun b h=>by rcases h with rfl|rfl;exact aJ HB.out;exact aap)
   dsimp only[pC] at hy;have HYY:=Hd hR;clear hR pU;have gU:ks.length-(j+1)+1=ks.length-j:=U;rw[gU] at HYY;have qB:=Hd gU;clear gU iN;gi_wp2;refine⟨fun h=>(by cases h),(HYY.out _).mono ?_⟩
   rintro e W3 (⟨rfl,Y8,rH⟩|⟨rfl,RS⟩)
   ·have gI:Boxed W3 B 59 (.slice (some ⟨g,0,none⟩) ks.length cap):=(rH.own B (.inl rfl) (aJ HB.out)).trans HB.out
    have nu:W3.heap[g]?=W.heap[g]?:=(rH.own g (.inr rfl) aap).trans HG.out;have qI:=Hd gI;have gF:=Hd nu;have Y9:=Hd Y8;have HZ3:Hid (W.heap.size≤W3.heap.size):=Hd (My HZ.out rH.below.size);clear gI nu Y8 rH;gi_wp2;go_roundw;case rel=>exact⟨j,_,rfl,rfl,U,qI,gF,Y9,HZ3⟩
    case measure=>simp[intOf]
   ·have Vy:=Hd RS;clear RS
    gi_wp2;refine bodyPost_ret (results_none rfl _ _ _) rfl ?_;exact⟨⟨_,rfl⟩,.inr ⟨_,Vy.out⟩⟩
theorem xt{F:Fence}{n:Nat}{P:Program}{c:Code}{Qx:Exit→Act→World→Prop}{a:Act}{w:World}(h:∀A0,A0=a→c.wpIn F n P Qx A0 w):c.wpIn F n P Qx a w:=h a rfl
theorem cj.itk{A B:World}{F:Nat→Prop}{cb p most clock:Nat}{ms:Int}{mb lo:Nat}{m:bU}(h:cj A F cb p most clock ms mb m)(hi:Itk (fun _=>False) lo A B)(hl:∀k,F k→k<lo):cj B F cb p most clock ms mb m :=
 h.beside (G:=fun k=>lo≤k) ⟨hi.os,hi.tape,hi.output,hi.size,fun k h1 h2=>hi.low k U h1 (fun h=>h)⟩ (fun k hk=>by have:=hl k hk;omega)
theorem tA{ks:List Nat}{k:Nat}(h:k∈ks):∃i x,(vD ks)[i]?=some x∧x.2=k∧i<ks.length:=by
 obtain⟨j,hj,rfl⟩:=QR h;refine⟨ks.length-1-j,_,Mp (by rw[BR];omega),?_,U⟩
 rw[JU ks _ U,show ks.length-1-(ks.length-1-j)=j by omega,Θ,Mp hj];rfl
theorem xl{ks:List Nat}{i:Nat}{x:Nat×Nat}(h:(vD ks)[i]?=some x):x.2∈ks∧x.1<ks.length:=by
 obtain⟨hi,he⟩:=Pi.1 h;rw[BR] at hi;rw[JU ks i hi] at he;subst he;refine⟨?_,by simp only;omega⟩
 simp only[Θ];rw[Mp U];exact MA _
theorem vE{P:Program}{fn:Func}{p:Tmp}{ty:TypeId}(h:fn.results=#[.cell p ty])(tmps:Array Value)(w:World)(a:Addr)(v:Value)(hp:tmps.getD p undef=.pointer (some a))(hl:(loadVar ty a).run P w=.ok v w):
  (results fn tmps).run P w=.ok v w:=by
 have RI:tmps[p]?.getD undef=.pointer (some a):=by simpa using hp
 simp[results,h,RI,asAddr,hl]
theorem Ar(w:World)(b:Nat)(x:Int)(h:w.cell? ⟨b,0,none⟩=some (.int .i64 x)):(loadVar 31 ⟨b,0,none⟩).run prog w=.ok (.int .i64 x) w:=by
 have hi:∀W,(isAgg 31).run prog W=.ok false W:=fun W=>by kernel_rfl
 simp[loadVar,hi,h,Result.andThen,go_sem]
theorem Qt(w:World)(F:Nat→Prop)(cb p n most clock:Nat)(ms:Int)(mb:Nat)(m:bU)(tx:List WrL)(g:Nat→Bytes)(h:cj w F cb p most clock ms mb m)(ho:cN n most clock tx g m)(hc:clock≤1000000000000000000):
  Ir w F n most clock tx g cb p ms mb m:=by
 unfold Ir;obtain⟨wa,dO⟩:∃wa,wa=(w.alloc (.cells #[au cb] 167)).alloc (.cells #[.int .i64 0] 31):=⟨_,rfl⟩;have hq:Q w wa:=by rw[dO];exact(Q.alloc _ _).trans (Q.alloc _ _)
 have bP:wa.heap.size=w.heap.size+2:=by rw[dO];simp
 have eH:Boxed wa w.heap.size 167 (au cb):=by rw[dO];exact(Boxed.new w _ _).alloc _
 have hb1:Boxed wa (w.heap.size+1) 31 (.int .i64 0):=by
  rw[dO];have:=Boxed.new (w.alloc (.cells #[au cb] 167)) 31 (.int .i64 0);rwa [World.size_alloc] at this
 have hh:=h.keep hq;have d0:=eH.cell;have d1:=hb1.cell;have e1:=hb1.frozen;have c1:=hh.box.cell 1 (.int .i64 (most:Nat)) rfl;have c4:=hh.box.cell 4 (.map (some mb)) rfl;have fT:=IU (P:=prog) (hh.keep (Q.drew _)).map 251 3 257 3 underlying251;rw[h.len] at fT;have iU:=ho.len;have RX:=ho.cap;have HH:=Hd hh;have HO:=Hd ho;have HQ:=Hd hq;have wG:=Hd eH;have Bl:=Hd hb1;have mD:=Hd bP;have H:=Hd h;clear hh ho hq eH hb1 bP h;refine(callsIn_wide (n:=0)).1 ?_;refine callsIn_of_wp_marks func199 rfl trivial ?_ rfl;simp only[ntmps199,UI,Mu,OF,Nat.reduceAdd,Nat.reduceSub,abB,abC,ab2,abN,Pr,PC];refine wpIn_wide.2 ?_;by_cases hl:m.length<most
 ·have hli:(m.length:Int)<(most:Int):=U
  go_wp2_with fail;rw[←dO];clear dO;go_region;all_goals
   go_wp2_with fail;have bN:=Bl.out.set (.int .i64 0);have OG:Q w ((wa.setCell ⟨w.heap.size+1,0,none⟩ (.int .i64 0)).drew):=Qs.dr (Qs.st HQ.out _ _ κ);refine⟨.int .i64 0,vE rfl _ _ ⟨w.heap.size+1,0,none⟩ _ rfl (Ar _ _ 0 bN.cell),rfl,ae.br OG,m,H.out.keep OG,HO.out,hl,fun _ h=>h⟩
 ·have hli:¬(m.length:Int)<(most:Int):=U
  have zX:0<m.length:=U;have cbl:=fun (W:World) (hq:Q wa W)=>AI W F cb p most clock ms mb m (HH.out.keep hq) HO.out.keys (fun z hz=>by have:=HO.out.used z hz;omega) zX U
  have CBL:=Hd cbl;clear cbl;go_wp2_with fail;rw[←dO];clear dO;go_region;all_goals
   go_wp2_with fail;refine(CBL.out _ (Q.drew _)).mono ?_;rintro e w1 ⟨gb,cap,ks,rfl,hgb,hp,OE,q1,aap⟩;have HP:=Hd hp;have xW:=Hd OE;have dF:=Hd ((Q.drew _).trans q1);clear hp OE q1;go_wp2_with fail;refine(Qp gb ks.length cap w1).mono ?_;rintro e w2 ⟨rfl,gD⟩;have eG:Q w1 w2:=by rw[←gD];exact Q.alloc _ _
   have Zb:Boxed w2 w1.heap.size 59 (.slice (some ⟨gb,0,none⟩) ks.length cap):=by rw[←gD];exact Boxed.new w1 _ _
   have jm:w2.heap.size=w1.heap.size+1:=by rw[←gD];simp
   have bJ:=Hd eG;have qC:=Hd Zb;have qD:=Hd jm;clear gD eG Zb jm;go_wp2_with fail;refine(wpIn_wide (n:=0)).1 ?_;refine xt (fun A0 hA0=>?_)
   have ams:w.heap.size+2≤gb:=by have:=mD.out;have h2:wa.drew.heap.size=wa.heap.size:=rfl;omega
   have amt:wa.heap.size≤w1.heap.size:=dF.out.size;have amu:w.heap.size+2≤w1.heap.size:=by have:=mD.out;omega
   have acZ:Q wa w2:=dF.out.trans bJ.out;have oq:ks.length=m.length:=by rw[HP.out.length_eq,OK]
   have GY:=Hd acZ;have Zc:=Hd oq;clear acZ oq fT d0 d1 e1 c1 c4;refine Ns (gf:=302) (lb:=#[.pointer (some ⟨w1.heap.size,0,none⟩)]) (by rw[hA0];rfl) (enters_of func302 (by kernel_rfl) rfl) (step:=Qq ks) (fin':=fun k=>k=ks.length) (s0:=0) (own:=fun _=>False) (keep:=fun k=>k=w1.heap.size∨k=gb) (n₀:=0)
    (fun W1 hq hz=>Qr w1.heap.size 0 gb cap ks W1 ((hq.block _ (aJ qC.out)).trans qC.out) (fun i hi=>aI (bJ.out.trans hq) (xW.out i hi)) (by have:=bJ.out.size;have:=hq.size;omega) (MD _) (by have:=Zc.out;omega))
    (fun _ h=>h.elim) (fun k h=>by have:=qD.out;omega) (MD _) (fun k W args k2 h=>by obtain⟨x,_,rfl,_⟩:=h;rfl)
    (fun k W=>Itk (fun _=>False) w2.heap.size w2 W∧∀i x,i<k→(vD ks)[i]?=some x→∀kk,bC x.2 m=some kk→kk.cz=true)
    (fun c _ W=>c=.ret∧Boxed W (w.heap.size+1) 31 (.int .i64 0)∧ae F w W∧∃i kk,bC i m=some kk∧kk.cz=false∧cj W F cb p most clock ms mb (kN i m))
    (fun k k2 a' _=>∃x:Nat×Nat,(vD ks)[k]?=some x∧k2=k+1∧a'={ tmps:=((A0.tmps.setIfInBounds 21 (.int .i64 (x.1:Nat))).setIfInBounds 22 (dX x.2)).setIfInBounds 5 (dX x.2),defers:=[] })
    ?hI ?hIx (fun _ _ _ _ _ h _=>h) ?h0 ?assign ?body ?done ?stop
   case hI =>
    rintro k A B ⟨h1,h2⟩ hi;exact⟨h1.trans hi,h2⟩
   case hIx =>
    rintro c k A B ⟨rfl,h1,h2,i,kk,h3,h4,h5⟩ hi;have hsA:=h2.size;refine⟨rfl,hi.boxed h1 (fun h=>h),⟨hi.os.trans h2.os,hi.tape.trans h2.tape,hi.output.trans h2.output,My h2.size hi.size,fun j h6 h7=>(hi.low j (by have:=qD.out;omega) U (fun h=>h)).trans (h2.block j h6 h7)⟩,i,kk,h3,h4,h5.itk hi (fun j hj=>by have:=H.out.lt j hj;have:=qD.out;omega)⟩
   case h0=>exact⟨Itk.refl _ _ _,fun i x hi=>U⟩
   case assign =>
    rintro l' j j2 W' args K hi ⟨x,hx,rfl,rfl⟩ hz hK;have HK:=Hd hK;have HI:=Hd hi;clear hK hi;subst hA0;gi_wp2;exact HK.out _ _ (Q.refl _) HI.out ⟨x,hx,by first|rfl|trivial,by first|rfl|trivial⟩
   case body =>
    rintro l' j j2 a' W' ⟨⟨rc,hrc⟩,RU⟩ Jw ⟨h1,h2⟩ ⟨x,hx,rfl,rfl⟩ mP hz;have uO:=xl hx;obtain⟨kk,iN⟩:∃kk,bC x.2 m=some kk:=by
     cases hg:bC x.2 m with
     | some kk=>exact⟨kk,rfl⟩
     | none =>
      obtain⟨y,hy,e⟩:=NF.1 (HP.out.mem_iff.1 uO.1);exact absurd e (oK.1 hg y hy)
    have xE:=(HH.out.keep GY.out).itk h1 (fun k hk=>by have:=H.out.lt k hk;have:=qD.out;omega)
    have c4:=xE.box.cell 4 (.map (some mb)) rfl;have MZ:Boxed W' w.heap.size 167 (au cb):=h1.boxed ((GY.out.block _ (aJ wG.out)).trans wG.out) (fun h=>h)
    have yI:Boxed W' (w.heap.size+1) 31 (.int .i64 0):=h1.boxed ((GY.out.block _ (aJ Bl.out)).trans Bl.out) (fun h=>h)
    have d0:=MZ.cell;have d1:=yI.cell;have f1:=yI.frozen;have qz:=xE.ij iN;have k1:=(xE.kept _ (gH iN)).1.cell 1 (.bool kk.cz) rfl;have k2:=(xE.kept _ (gH iN)).1.cell 2 (.int .i64 0) rfl;have hlu:=uH (P:=prog) xE.map 251 3 257 underlying251 underlying3 (.pointer none) (l6 _) x.2 false;simp only[N0,PR] at hlu;rw[qz] at hlu;simp only[] at k1 k2;obtain⟨x1,x2⟩:=x;simp only at *;have mE:w2.heap.size≤W'.heap.size:=h1.size;have RB:w.heap.size+3≤w2.heap.size:=by have:=qD.out;omega
    subst hA0;simp only[List.setIfInBounds_toArray,abZ,List.set_cons_zero];cases nQ:kk.cz with
    | true =>
     rw[nQ] at k1;have zW:∀i x,i<j+1→(vD ks)[i]?=some x→∀kk,bC x.2 m=some kk→kk.cz=true:=fun i y hi hy kk' hg=>by
      by_cases Vu:i<j
      ·exact h2 i y Vu hy kk' hg
      ·obtain rfl:i=j:=U
       rw[hx] at hy;injection hy with hy;subst hy;rw[iN] at hg;injection hg with hg;subst hg;exact nQ
     have HI1:=Hd h1;have HI2:=Hd zW;clear h1 h2 zW xE MZ yI qz hx uO iN hrc RU mP;gi_wp2_with fail;exact⟨Bk.refl _ _ _,HI1.out,HI2.out⟩
    | false =>
     rw[nQ] at k1;obtain⟨w4,Yu,xD,lV,zY⟩:=MF (P:=prog) xE.map 251 3 257 underlying251 underlying3 x2;have t4:=cj.eL lV;have h4:=xE.gone HO.out.keys xD t4;have hmb:F mb:=H.out.fm;have acT:mb<w.heap.size:=H.out.lt mb hmb;have GZ:Boxed w4 (w.heap.size+1) 31 (.int .i64 0):=(t4.block _ (aJ yI) U).trans yI;have d14:=GZ.cell;have f14:=GZ.frozen;have t5:ae (fun j=>j=w.heap.size+1) w4 (w4.setCell ⟨w.heap.size+1,0,none⟩ (.int .i64 0)):=ae.setCell (a:=⟨w.heap.size+1,0,none⟩) (ae.refl (fun j=>j=w.heap.size+1) w4) (.inl rfl) _
     have h5:=h4.beside t5 (fun k hk e=>by have:=H.out.lt k hk;omega)
     have ac0:=GZ.set (.int .i64 0);have htW:ae F w W':=(⟨h1.os.trans (HQ.out.trans GY.out).os,h1.tape.trans (HQ.out.trans GY.out).tape,h1.output.trans (HQ.out.trans GY.out).output,My (HQ.out.trans GY.out).size h1.size,fun j h6 h7=>(h1.low j U U (fun h=>h)).trans ((HQ.out.trans GY.out).block j h6)⟩)
     have zF:ae F w (w4.setCell ⟨w.heap.size+1,0,none⟩ (.int .i64 0)):=(htW.trans (t4.mono (fun j hj=>by subst hj;exact hmb))).setCell (a:=⟨w.heap.size+1,0,none⟩) (.inr κ) _
     have eu:BkS (fun b=>b=w2.heap.size∨b=w2.heap.size+1) W' (w4.setCell ⟨w.heap.size+1,0,none⟩ (.int .i64 0)) :=
      ⟨My t4.size t5.size,fun b hb dZ=>(t5.block b (Ψ dZ t4.size) U).trans (t4.block b dZ U)⟩
     have HE:=Hd (And.intro eu (And.intro ac0 (And.intro zF h5)));have Zd:=Hd iN;have HDR:=Hd nQ;clear h1 h2 xE MZ yI qz hx uO iN hrc RU mP xD lV zY t4 h4 GZ t5 h5 ac0 htW zF eu nQ;gi_wp2_with fail;exact⟨HE.out.1,rfl,HE.out.2.1,HE.out.2.2.1,x2,kk,Zd.out,HDR.out,HE.out.2.2.2⟩
   case done =>
    rintro D kz W' hD _ rfl ⟨h1,h2⟩ hK;exfalso;obtain⟨y,hy,hyd⟩:=HO.out.ry U;have hg:=kL HO.out.keys (k:=y.1) (v:=y.2) hy;obtain⟨i,x,hx,uO,Cm⟩:=tA (HP.out.mem_iff.2 (NF.2 ⟨y,hy,rfl⟩));have:=h2 i x Cm hx y.2 (by rw[uO];exact hg)
    rw[hyd] at this;exact absurd this Z
   case stop =>
    rintro D c k W' hD ⟨rfl,yI,ht,i,kk,hg,hd,xE⟩ hK;obtain⟨DX,fF⟩:=HO.out.drop hg hd;have hDw:w.heap.size+3≤D:=by have:=qD.out;omega
    have tp:ae (fun j=>j=D) W' (W'.putObj D (.deferred none)):=⟨rfl,rfl,rfl,κ,fun k h1 h2=>World.putObj_heap_other h2⟩
    have h6:=xE.beside tp (fun k hk e=>by have:=H.out.lt k hk;omega)
    have tQ:Boxed (W'.putObj D (.deferred none)) (w.heap.size+1) 31 (.int .i64 0):=(tp.block _ (aJ yI) U).trans yI;have ht6:ae F w (W'.putObj D (.deferred none)):=⟨ht.os,ht.tape,ht.output,My ht.size tp.size,fun j h7 h8=>(tp.block j (Ψ h7 ht.size) U).trans (ht.block j h7 h8)⟩
    have HE:=Hd (And.intro h6 (And.intro ht6 DX));have RY:=Hd tQ;have HK:=Hd hK;have bI:∀j,bC j m=none→bC j (kN i m)=none:=fun j hj=>by
     rw[Ip i m HO.out.keys];exact oK.2 (fun x hx=>oK.1 hj x (QP.1 hx).1)
    have dY:=Hd bI;clear yI ht hg hd xE DX tp h6 tQ ht6 hK bI;subst hA0;gi_wp2_with fail;refine⟨κ,.inl ⟨_,_,rfl,run_takeDeferred HK.out,?_⟩⟩;exact⟨.int .i64 0,vE rfl _ _ ⟨w.heap.size+1,0,none⟩ _ rfl (Ar _ _ 0 RY.out.cell),rfl,HE.out.2.1,kN i m,HE.out.1,HE.out.2.2,U,dY.out⟩
end
section
open Go.RowKit
def kw(w:World)(n:Nat)(v:Value)(ks:List Nat):Prop:=∃a cap,v=.slice a ks.length cap∧(0<ks.length→∃g,a=some ⟨g,0,none⟩∧n≤g∧g<w.heap.size∧∀i (hi:i<ks.length),w.cell? ⟨g,i,none⟩=some (dX ks[i]))
theorem kw.stays{w w':World}{n:Nat}{v:Value}{ks:List Nat}(h:kw w n v ks)(q:Q w w'):kw w' n v ks:=by
 obtain⟨a,cap,rfl,hc⟩:=h;refine⟨a,cap,rfl,fun hn=>?_⟩
 obtain⟨g,rfl,h1,h2,h3⟩:=hc hn;exact⟨g,rfl,h1,Ψ h2 q.size,fun i hi=>aI q (h3 i hi)⟩
theorem UG(w:World)(base:Nat)(v:Value)(ks:List Nat)(ho:w.ownsRow base 3 1 v ks.length (ks.map dX))(hlen:ks.length≤1000000):
  Calls prog 290 #[v] w fun e w'=>e=.returned (.tuple #[])∧∃ks':List Nat,ks'.Perm ks∧ks'.Pairwise (·≤·)∧kw w' base v ks'∧∀n₀,n₀≤base→n₀≤w.heap.size→Below n₀ w w':=by
 rcases ho.2 with ⟨rfl,hz⟩|⟨g,cap,cur,rfl,lF,hg,RX,_⟩
 ·rw[hz] at ho
  have hk:ks=[]:=OS hz;subst hk;refine(Tryz.slices_Sort_int_none none 0 w).mono ?_;rintro e w' ⟨rfl,rfl⟩;exact⟨rfl,[],adU _,List.Pairwise.nil,⟨none,0,rfl,fun h=>by simp at h⟩,fun n₀ _ _=>Below.refl _ _⟩
 ·rcases UX ks.length with hz|hn
  ·have hk:ks=[]:=OS hz
   subst hk;refine(Tryz.slices_Sort_int_none (some ⟨g,0,none⟩) cap w).mono ?_;rintro e w' ⟨rfl,rfl⟩;exact⟨rfl,[],adU _,List.Pairwise.nil,⟨_,cap,rfl,fun h=>by simp at h⟩,fun n₀ _ _=>Below.refl _ _⟩
  ·have bX:=Sl.cy ho
   obtain⟨zs,jl⟩:∃zs:List Int,zs=ks.map (fun k:Nat=>(k:Int)):=⟨_,rfl⟩
   have xX:zs.length=ks.length:=by rw[jl,OK]
   have hH:Go.Sort.Holds (Value.int .i64) w g 0 zs.toArray:=fun j hj=>by
    have xR:j<ks.length:=by(have:j<zs.length:=(by simpa using hj));omega
    have hc:=Qn bX hn j (dX ks[j]) (by simp[xR])
    rw[PF];refine⟨?_,?_⟩
    ·rw[hc,aaj zs.toArray j hj]
     subst jl;simp
    ·have:Blk w g 3 cur:=hg
     exact this.frozen j
   have hs:=Tryz.slices_Sort_int g 0 cap zs w hH (aJ hg) U;rw[xX] at hs;refine hs.mono ?_;rintro e w' ⟨rfl,n,os,Y3⟩;obtain⟨zs',aaq⟩:∃zs',zs'=zs.mergeSort fun x y=>decide (x≤y):=⟨_,rfl⟩
   rw[←aaq] at Y3;have hp:zs'.Perm zs:=by rw[aaq];exact List.mergeSort_perm _ _
   have ig:zs'.Pairwise (fun x y=>decide (x≤y)=true):=by
    rw[aaq];exact List.pairwise_mergeSort (fun a b c h1 h2=>by simp at *;omega) (fun a b=>by simp;omega) _
   have kT:∀x∈zs',0≤x:=fun x hx=>by
    have:=hp.mem_iff.1 hx;rw[jl] at this;obtain⟨k,_,rfl⟩:=NF.1 this;omega
   have hwd:w'=sortWorld (Value.int .i64) w g 0 n zs'.toArray os:=Y3;have oW:w.grownBy w' (some g):=by rw[hwd];exact yL (Value.int .i64) w g 0 n zs'.toArray os
   have hhh:Go.Sort.Holds (Value.int .i64) w' g 0 zs'.toArray:=by rw[hwd];exact holds_sortWorld (Value.int .i64) w g 0 n zs.toArray zs'.toArray os (aJ hg) hH (by simp[hp.length_eq])
   have Jw:zs'.length=ks.length:=by rw[hp.length_eq,xX]
   refine⟨rfl,zs'.map Int.toNat,?_,?_,⟨_,cap,by rw[OK,Jw],fun _=>⟨g,rfl,lF,Ψ (aJ hg) oW.size,fun i hi=>?_⟩⟩,fun n₀ h1 h2=>(Below.refl _ _).grown oW h2 (fun k hk=>by cases hk;omega)⟩
   ·have:=hp.map Int.toNat
    have e:zs.map Int.toNat=ks:=by rw[jl,SJ];simp[W6]
    rwa [e] at this
   ·refine abp.2 (ig.imp (fun h=>?_))
    simp at h;omega
   ·have pK:i<zs'.length:=by simpa using hi
    have hh:=(hhh i (by simpa using pK)).1
    rw[PF,aaj zs'.toArray i (by simpa using pK)] at hh
    rw[hh,ab9];have:=kT zs'[i] (MA pK);simp only[List.getElem_toArray,dX,aak this]
theorem MI(B mb:Nat)(m:List (Nat×Value))(w:World)(hb:Boxed w B 251 (.map (some mb)))(hm:de w mb m)(hlen:m.length≤1000000):
  Calls prog 241 #[.func (.func 291) #[] #[.pointer (some ⟨B,0,none⟩)]] w fun e w' =>
   ∃(v:Value) (ks:List Nat),e=.returned v∧ks.Perm (m.map (·.1))∧ks.Pairwise (·≤·)∧kw w' w.heap.size v ks∧Q w w':=by
 have hc:=IW B mb m w hb hm hlen;have HC:=Hd hc;clear hc hb hm;go_enter func241,ntmps241;go_wp2_with fail;refine HC.out.mono ?_;rintro e w1 ⟨v,ks,rfl,hp,ho,q⟩;have oq:ks.length=m.length:=by rw[hp.length_eq,OK]
 have cs:=UG w1 w.heap.size v ks ho U;have HP:=Hd hp;have HQ:=Hd q;have CS:=Hd cs;clear hp ho q cs oq;go_wp2_with fail;refine CS.out.mono ?_;rintro e w2 ⟨rfl,ks',iq,ig,OH,dZ⟩;have eG:Q w w2:=Below.trans HQ.out (dZ w.heap.size (Ω _) HQ.out.size);have kX:=Hd iq;have Bo:=Hd ig;have HKR:=Hd OH;have bJ:=Hd eG;clear iq ig OH dZ eG;go_wp2_with fail;go_ret;exact⟨_,ks',rfl,kX.out.trans HP.out,Bo.out,HKR.out,bJ.out⟩
def rY(m:bU)(i:Nat):Option WrL:=(bC i m).bind fun k=>if k.cz then some (i,k.data) else none
theorem FR{α β:Type}(f:α→Option β)(l:List α)(k:Nat)(h:k<l.length):(l.take (k+1)).filterMap f=(l.take k).filterMap f++(match f l[k] with|some x=>[x]|none=>[]):=by
 rw[M2 h,List.filterMap_append];congr 1;cases hf:f l[k]<;>simp[hf]
theorem tg(w:World)(F:Nat→Prop)(cb p n most clock:Nat)(ms:Int)(mb:Nat)(m:bU)(tx:List WrL)(g:Nat→Bytes)(h:cj w F cb p most clock ms mb m)(ho:cN n most clock tx g m):
  Calls prog 176 #[au cb] w fun e w'=>∃v,e=.returned v∧w'.ownsRow w.heap.size 116 2 v tx.length (aN tx)∧Q w w':=by
 obtain⟨i1,qG,wH,tN,hy2⟩:=info_parts nC;have iU:m.length≤1024:=by have:=ho.len;have:=ho.cap;omega
 have c4:=h.box.cell 4 (.map (some mb)) rfl;have gX:=ho.Hi;have hgs:∀k∈m.map (·.1),∃kk,bC k m=some kk:=fun k hk=>by
  cases hg:bC k m with
  | some kk=>exact⟨kk,rfl⟩
  | none =>
   obtain⟨y,hy,e⟩:=NF.1 hk;exact absurd e (oK.1 hg y hy)
 have bX:=fun (W:World) (B:Nat) (q:Q w W) (hb:Boxed W B 251 (.map (some mb)))=>MI B mb (mapOf m) W hb (h.keep q).map (by rw[h.len];omega)
 have Aa:(mapOf m).map (·.1)=m.map (·.1):=by simp[mapOf]
 rw[Aa] at bX;have xG:=Hd bX;have HH:=Hd h;have HDT:=Hd gX;have HGS:=Hd hgs;clear bX Aa h gX hgs ho;go_enter func176,ntmps176;go_wp2_with fail;refine(Qm mb w).mono ?_;rintro e w1 ⟨rfl,eO⟩;have pR:Q w w1:=by rw[←eO];exact Q.alloc _ _
 have hb1:Boxed w1 w.heap.size 251 (.map (some mb)):=by rw[←eO];exact Boxed.new w _ _
 have oV:=xG.out w1 w.heap.size pR hb1;have dF:=Hd pR;have Ab:=Hd oV;clear eO pR hb1 oV;go_wp2_with fail;refine Ab.out.mono ?_;rintro e w2 ⟨v,ks,rfl,hp,ig,OH,q2⟩;have eG:Q w w2:=dF.out.trans q2;have oq:ks.length=m.length:=by rw[hp.length_eq,OK]
 obtain⟨a,cap,rfl,aP⟩:=OH;have dK:ks.filterMap (rY m)=tx:=HDT.out ks hp ig;have HP:=Hd hp;have bJ:=Hd eG;have xW:=Hd aP;have HF:=Hd dK;have Zc:=Hd oq;have LQ:ks.length≤1024:=U;clear hp ig eG q2 aP dK oq c4;go_wp2_with fail;go_loopw [3,14] (fun v i wr=>∃k:Nat,i=.int .i64 (k:Nat)∧k≤ks.length∧Hid (wr.ownsRow w2.heap.size 116 2 v ((ks.take k).filterMap (rY m)).length (aN ((ks.take k).filterMap (rY m))))∧Hid (Q w2 wr)) (fun _ i _=>ks.length-(intOf i).toNat)
 case atStart=>exact⟨0,rfl,MD _,Hd (World.ownsRow_nil _ _ _ _),Hd (Q.refl _)⟩
 case round =>
  obtain⟨k,rfl,hk,HOW,HQ⟩:=hrel;by_cases ay:k<ks.length
  ·have bq:(k:Int)<(ks.length:Int):=U
   have EP:(0:Int)≤(k:Int):=U;obtain⟨gk,rfl,_,_,bL⟩:=xW.out U;have x1:=aI HQ.out (bL k ay);obtain⟨kk,iN⟩:=HGS.out ks[k] (HP.out.mem_iff.1 (MA ay));have xE:=HH.out.keep (bJ.out.trans HQ.out);have c4:=xE.box.cell 4 (.map (some mb)) rfl;have zx:=xE.map;have qz:=xE.ij iN;have k0:=(xE.kept _ (gH iN)).1.cell 0 (ah kk.data) rfl;have k1:=(xE.kept _ (gH iN)).1.cell 1 (.bool kk.cz) rfl;simp only[] at k0 k1;have aC:=FR (rY m) ks k ay;have iG:rY m ks[k]=if kk.cz then some (ks[k],kk.data) else none:=by unfold rY;rw[iN];rfl
   have kG:((ks.take k).filterMap (rY m)).length≤1024:=My (List.length_filterMap_le _ _) (by rw[Mz];omega)
   rw[iG] at aC;generalize aib:ks[k]=key at *;generalize ER:(ks.take k).filterMap (rY m)=acc at *;have Js:=Hd zx;have Bj:=Hd qz;have aX:=Hd aC;clear zx qz aC xE iG iN aib ER bL;cases nQ:kk.cz with
   | true =>
    rw[nQ] at k1;have aC:=aX.out;rw[nQ] at aC;simp only[QQ] at aC;have Dv:=Hd aC;clear aC nQ aX;generalize kk.data=kd at *;have cO:∀u∈#[Value.int .i64 (key:Nat),ah kd].toList,u.oneCell'=true:=by intro u hu;simp at hu;rcases hu with rfl|rfl<;>rfl
    have dI:(acc.length+1)*24≤140737488355328:=U;have qJ:=Hd cO;have uY:=Hd dI;have eH:w2.heap.size≤wr.heap.size:=HQ.out.size;clear cO dI;go_wp2_with (first|(at_lookup;refine jD _ ρ _ _ 251 false ρ 3 257 underlying251 underlying3 (.pointer none) (l6 _) mb _ Js.out key ρ ρ ?_;rw[Bj.out])|(at_builtin;refine bG wr ρ _ _ 66 ρ w2.heap.size 116 _ i1 (.agg #[.int .i64 0,ah []]) 2 24 underlying66 qG wH tN hy2 rfl Z Z _ _ _ ρ HOW.out #[.int .i64 (key:Nat),ah kd] ρ rfl qJ.out uY.out eH ?_))
    intro g11 jI w11 iB gu lQ jR iC;have qj:Q w2 w11:=bD HQ.out HOW.out gu (Ω _) eH;have gW:w11.ownsRow w2.heap.size 116 2 (.slice (some ⟨g11,0,none⟩) (acc.length+1) jI) ((ks.take (k+1)).filterMap (rY m)).length (aN ((ks.take (k+1)).filterMap (rY m))):=by
     rw[Dv.out,Δ,iF,show aN [(key,kd)]=mX (key,kd) by simp[aN]];exact iB
    have oz:=Hd qj;have qW:=Hd gW;clear iB gu lQ jR iC gW qj;go_wp2_with fail;go_roundw;case rel=>exact⟨k+1,by go_num,U,qW,oz⟩
    case measure=>simp[intOf];omega
   | false =>
    rw[nQ] at k1;have aC:=aX.out;rw[nQ] at aC;simp only[N0,PR,ON] at aC;have Dv:=Hd aC;clear aC nQ aX;go_wp2_with (at_lookup;refine jD _ ρ _ _ 251 false ρ 3 257 underlying251 underlying3 (.pointer none) (l6 _) mb _ Js.out key ρ ρ ?_;rw[Bj.out]);go_roundw;case rel=>exact⟨k+1,by go_num,U,Hd (by rw[Dv.out];exact HOW.out),HQ⟩
    case measure=>simp[intOf];omega
  ·have bq:¬(k:Int)<(ks.length:Int):=U
   obtain rfl:k=ks.length:=U;have dP:=HOW.out;rw[N5,HF.out] at dP;have HR:=Hd dP;clear dP;go_wp2_with fail;go_ret;exact⟨_,rfl,gT HR.out bJ.out.size,bJ.out.trans HQ.out⟩
theorem ae.more{F G:Nat→Prop}{A B C:World}(h:ae F A B)(t:ae G B C)(hG:∀k,G k→F k∨A.heap.size≤k):ae F A C :=
 ⟨t.os.trans h.os,t.tape.trans h.tape,t.output.trans h.output,My h.size t.size,fun k h1 h2=>(t.block k (Ψ h1 h.size) (fun hg=>(hG k hg).elim h2 (fun h3=>U))).trans (h.block k h1 h2)⟩
def nH(m:bU)(left:List Nat):bU:=m.map fun x=>(x.1,if left.contains x.1 then x.2 else { x.2 with cz:=false })
theorem Dh(m:bU)(left:List Nat):(nH m left).map (·.1)=m.map (·.1):=by simp[nH,SJ,W6]
theorem UH(m:bU)(left:List Nat):(nH m left).map (·.2.p)=m.map (·.2.p):=by
 unfold nH;rw[SJ];refine P4 (fun x _=>?_)
 simp only[Function.comp];split<;>rfl
theorem UJ{α:Type}{k:Nat}{v u:α}{m:List (Nat×α)}(hn:(m.map (·.1)).Nodup)(hg:bC k m=some u):cK k v m=m.map fun x=>if x.1=k then(k,v) else x:=by
 induction m with
 | nil=>cases hg
 | cons y m ih =>
  simp only[On,SR] at hn;unfold bC at hg;unfold cK;by_cases hy:y.1=k
  ·rw[Φ hy,On,Φ hy]
   congr 1;conv=>lhs;rw[←List.map_id m]
   refine P4 (fun x hx=>?_)
   rw[η]
   ·rfl
   ·intro e
    exact hn.1 (NF.2 ⟨x,hx,by rw[e,hy]⟩)
  ·rw[η hy] at hg ⊢
   rw[On,η hy,ih hn.2 hg]
theorem UK{m:bU}{k:Nat}{kk:gq}{left left':List Nat}(hn:(m.map (·.1)).Nodup)(hg:bC k m=some kk)(hp:left.Perm (k::left'))(hl:left.Nodup):
  bC k (nH m left)=some kk∧cK k { kk with cz:=false } (nH m left)=nH m left':=by
 have oq:k∈left:=hp.mem_iff.2 (Nm ..);have lU:(k::left').Nodup:=hp.nodup_iff.1 hl;have Yv:k∉left':=(SR.1 lU).1;have h1:bC k (nH m left)=some kk:=by
  refine kL (by rw[Dh];exact hn) (NF.2 ⟨(k,kk),gH hg,?_⟩)
  simp[oq]
 refine⟨h1,?_⟩;rw[UJ (by rw[Dh];exact hn) h1]
 unfold nH;rw[SJ];refine P4 (fun x hx=>?_)
 simp only[Function.comp];by_cases uO:x.1=k
 ·have sH:x=(k,kk):=by
   have:=kL hn (k:=x.1) (v:=x.2) hx;rw[uO,hg] at this;injection this with this;rw[←uO,this]
  subst sH;simp[Yv]
 ·have:left.contains x.1=left'.contains x.1:=by
   have h1:x.1∈left↔x.1∈left':=by
    rw[hp.mem_iff,NL];exact⟨fun h=>h.resolve_left uO,.inr⟩
   by_cases hm:x.1∈left'
   ·simp[hm,h1.2 hm]
   ·have lD:x.1∉left:=fun h=>hm (h1.1 h)
    simp[hm,lD]
  simp only[uO,PR,this]
theorem WJ{w:World}{b r:Nat}{m:bU}(left:List Nat)(h:∀x∈m,x.1∈left):nH m left=m:=by
 unfold nH;conv=>rhs;rw[←List.map_id m]
 refine P4 (fun x hx=>?_)
 simp[h x hx]
theorem Nt(w:World)(F:Nat→Prop)(cb p most clock:Nat)(ms:Int)(mb:Nat)(m:bU)(h:cj w F cb p most clock ms mb m)(hk:(m.map (·.1)).Nodup)(hp:(m.map (·.2.p)).Nodup):
  Calls prog 181 #[au cb] w fun e w'=>e=.returned (.tuple #[])∧cj w' F cb p most clock ms mb (m.map fun x=>(x.1,{ x.2 with cz:=false }))∧ae F w w':=by
 have c4:=h.box.cell 4 (.map (some mb)) rfl;obtain⟨o,LW,Co⟩:=cV.made (P:=prog) h.map 251 3 257 underlying251;have ji:Q w (w.alloc o):=Q.alloc _ _;have h0:=h.keep ji;have aC:nH m ((mapOf m).map (·.1))=m:=WJ (w:=w) (b:=0) (r:=0) _ (fun x hx=>NF.2 ⟨(x.1,au x.2.p),NF.2 ⟨x,hx,rfl⟩,rfl⟩)
 rw[←aC] at h0;have LX:=Hd Co;have H0:=Hd h0;have HH:=Hd h;have mF:=Hd ji;have HK:=Hd hk;have HP:=Hd hp;clear Co h0 h ji aC hk hp;go_enter func181,ntmps181;go_wp2_with fail;clear LW c4;go_loopw [3] (fun _ wr=>∃left,Hid (cV wr mb w.heap.size (mapOf m) left)∧Hid (cj wr F cb p most clock ms mb (nH m left))∧Hid (ae F w wr)) (fun _ wr=>wr.rangeLeft mb w.heap.size)
 case atStart=>exact⟨_,LX,H0,Hd (ae.br mF.out)⟩
 case round =>
  obtain⟨left,HR,HC,HT⟩:=hrel;rcases cV.next (P:=prog) HR.out with ⟨rfl,gU⟩|⟨k,v,left',w',GU,qH,gU,qA,hg,hz,GX⟩
  ·have dK:=HC.out
   rw[show nH m []=m.map (fun x=>(x.1,{ x.2 with cz:=false })) from by simp[nH]] at dK
   have HF:=Hd dK;clear dK;go_wp2_with fail;go_end0;exact⟨rfl,HF.out,HT.out⟩
  ·obtain⟨x,hx,sH⟩:=NF.1 GU
   obtain⟨kx,kk⟩:=x;simp only[SD] at sH;obtain⟨rfl,rfl⟩:=sH;have Jy:=kL HK.out hx;obtain⟨s1,s2⟩:=UK HK.out Jy qH HR.out.nodup.1;have tr:ae (fun j=>j=w.heap.size) wr w':=cj.eL hg
   have uZ:∀j,F j→j≠w.heap.size:=fun j hj e=>by have:=HH.out.lt j hj;omega
   have h1:=HC.out.beside tr uZ;have mP:=(h1.kept _ (gH s1)).1;have hkF:=(h1.kept _ (gH s1)).2;have d1:=mP.cell 1 (.bool kk.cz) rfl;have f1:=mP.frozen 1;simp only[] at d1 f1 hkF;have t2:ae (fun j=>j=kk.p) w' (w'.setCell ⟨kk.p,1,none⟩ (.bool false)):=ae.setCell (a:=⟨kk.p,1,none⟩) (ae.refl (fun j=>j=kk.p) w') (.inl rfl) _
   have h2:=h1.kl (by rw[Dh];exact HK.out) (by rw[UH];exact HP.out) s1 (k':={ kk with cz:=false }) rfl t2 (mP.set 1 (.bool false))
   rw[s2] at h2;have hrF:kk.p≠mb∧kk.p≠w.heap.size:=⟨(h1.apart.2 _ (gH s1)).2,uZ _ hkF⟩;have pW:cV (w'.setCell ⟨kk.p,1,none⟩ (.bool false)) mb w.heap.size (mapOf m) left':=qA.same (t2.block _ qA.map.lt hrF.1.symm) (by
    obtain⟨since,seen,c0,hit⟩:=qA.iter;exact t2.block _ (aJ hit) hrF.2.symm)
   have zG:ae F w (w'.setCell ⟨kk.p,1,none⟩ (.bool false)):=(HT.out.more tr (fun j hj=>.inr (aes hj.symm))).trans (t2.mono (fun j hj=>by subst hj;exact hkF))
   have fT:(w'.setCell ⟨kk.p,1,none⟩ (.bool false)).rangeLeft mb w.heap.size<wr.rangeLeft mb w.heap.size:=by rw[pW.len,HR.out.len,qH.length_eq];simp
   have H2:=Hd h2;have Ct:=Hd pW;have fG:=Hd zG;have HL:=Hd fT;clear h2 pW zG fT h1 mP hkF t2 tr hg hz qA GU qH s1 s2 hx Jy hrF;go_wp2_with fail;go_roundw;case rel=>exact⟨left',Ct,H2,fG⟩
   case measure=>exact HL.out
def l7(m:bU)(left:List Nat):bU:=m.filter fun x => !x.2.cz||left.contains x.1
theorem Gf(m:bU)(left:List Nat):(l7 m left).Sublist m:=abM
theorem WK{m:bU}{k:Nat}{kk:gq}{left left':List Nat}(hn:(m.map (·.1)).Nodup)(hg:bC k m=some kk)(hp:left.Perm (k::left'))(hl:left.Nodup):
  bC k (l7 m left)=some kk∧k∉left'∧(kk.cz=true→kN k (l7 m left)=l7 m left')∧(kk.cz=false→l7 m left=l7 m left'):=by
 have oq:k∈left:=hp.mem_iff.2 (Nm ..);have lU:(k::left').Nodup:=hp.nodup_iff.1 hl;have Yv:k∉left':=(SR.1 lU).1;have sI:((l7 m left).map (·.1)).Nodup:=((Gf m left).map _).nodup hn
 have eF:∀x∈m,x.1≠k→(left.contains x.1=left'.contains x.1):=fun x hx uO=>by
  have h1:x.1∈left↔x.1∈left':=by
   rw[hp.mem_iff,NL];exact⟨fun h=>h.resolve_left uO,.inr⟩
  by_cases hm:x.1∈left'
  ·simp[hm,h1.2 hm]
  ·have lD:x.1∉left:=fun h=>hm (h1.1 h)
   simp[hm,lD]
 have ac4:∀x∈m,x.1=k→x=(k,kk):=fun x hx uO=>by
  have:=kL hn (k:=x.1) (v:=x.2) hx;rw[uO,hg] at this;injection this with this;rw[←uO,this]
 refine⟨kL sI (QP.2 ⟨gH hg,by simp[oq]⟩),Yv,fun hd=>?_,fun hd=>?_⟩
 ·rw[Ip k _ sI]
  unfold l7;rw[List.filter_filter];refine List.filter_congr (fun x hx=>?_)
  by_cases uO:x.1=k
  ·rw[ac4 x hx uO]
   simp[hd,Yv]
  ·have aic:(x.1 != k)=true:=by simpa using uO
   rw[aic,ab6,eF x hx uO]
 ·unfold l7
  refine List.filter_congr (fun x hx=>?_)
  by_cases uO:x.1=k
  ·rw[ac4 x hx uO]
   simp[hd]
  ·rw[eF x hx uO]
theorem xz{m:bU}(left:List Nat)(h:∀x∈m,x.1∈left):l7 m left=m:=by
 unfold l7;exact acP.2 (fun x hx=>by simp[h x hx])
theorem xf(w:World)(k:Nat)(kk:gq)(h:Blk w kk.p 259 (mK kk)):
  Calls prog 293 #[dX k,au kk.p] w fun e w'=>e=.returned (.bool kk.cz)∧w=w':=by
 have d1:=h.cell 1 (.bool kk.cz) rfl;clear h;go_enter func293,ntmps293;go_wp2_with fail;go_ret;exact⟨rfl,rfl⟩
theorem cj.sub{w:World}{F:Nat→Prop}{cb p most clock:Nat}{ms:Int}{mb:Nat}{m m':bU}(h:cj w F cb p most clock ms mb m)(hs:m'.Sublist m)(hm:de w mb (mapOf m')):cj w F cb p most clock ms mb m' :=
 ⟨h.box,h.fb,hm,h.fm,fun x hx=>h.kept x (hs.subset hx),h.lt⟩
theorem MJ(w:World)(F:Nat→Prop)(cb p most clock:Nat)(ms:Int)(mb:Nat)(m:bU)(h:cj w F cb p most clock ms mb m)(hk:(m.map (·.1)).Nodup):
  Calls prog 292 #[.map (some mb),.func (.func 293) #[] #[]] w fun e w'=>e=.returned (.tuple #[])∧cj w' F cb p most clock ms mb (m.filter fun x => !x.2.cz)∧ae F w w':=by
 obtain⟨o,LW,Co⟩:=cV.made (P:=prog) h.map 251 3 257 underlying251;have ji:Q w (w.alloc o):=Q.alloc _ _;have h0:=h.keep ji;have aC:l7 m ((mapOf m).map (·.1))=m:=xz _ (fun x hx=>NF.2 ⟨(x.1,au x.2.p),NF.2 ⟨x,hx,rfl⟩,rfl⟩)
 rw[←aC] at h0;have qA:cV (w.alloc o) mb w.heap.size (mapOf (l7 m ((mapOf m).map (·.1)))) ((mapOf m).map (·.1)):=by rw[aC];exact Co
 have LX:=Hd qA;have H0:=Hd h0;have HH:=Hd h;have mF:=Hd ji;have HK:=Hd hk;clear Co qA h0 h ji aC hk;go_enter func292,ntmps292;go_wp2_with fail;clear LW;go_loopw [4] (fun _ wr=>∃left,Hid (cV wr mb w.heap.size (mapOf (l7 m left)) left)∧Hid (cj wr F cb p most clock ms mb (l7 m left))∧Hid (ae F w wr)) (fun _ wr=>wr.rangeLeft mb w.heap.size)
 case atStart=>exact⟨_,LX,H0,Hd (ae.br mF.out)⟩
 case round =>
  obtain⟨left,HR,HC,HT⟩:=hrel;rcases cV.next (P:=prog) HR.out with ⟨rfl,gU⟩|⟨k,v,left',w',GU,qH,gU,qA,hg,hz,GX⟩
  ·have dK:=HC.out
   rw[show l7 m []=m.filter (fun x => !x.2.cz) from by unfold l7;simp] at dK
   have HF:=Hd dK;clear dK;go_wp2_with fail;go_end0;exact⟨rfl,HF.out,HT.out⟩
  ·obtain⟨x,hx,sH⟩:=NF.1 GU
   obtain⟨kx,kk⟩:=x;simp only[SD] at sH;obtain⟨rfl,rfl⟩:=sH;have Jy:=kL HK.out ((Gf m left).subset hx);obtain⟨s1,s2,s3,s4⟩:=WK HK.out Jy qH HR.out.nodup.1;have tr:ae (fun j=>j=w.heap.size) wr w':=cj.eL hg
   have uZ:∀j,F j→j≠w.heap.size:=fun j hj e=>by have:=HH.out.lt j hj;omega
   have h1:=HC.out.beside tr uZ;have mP:=(h1.kept _ (gH s1)).1;have xY:ae F w w':=HT.out.more tr (fun j hj=>.inr (aes hj.symm))
   have cd:=xf w' kx kk mP;have ac5:w'.rangeLeft mb w.heap.size<wr.rangeLeft mb w.heap.size:=by rw[qA.len,HR.out.len,qH.length_eq];simp
   have CD:=Hd cd;have uN:=Hd ac5;clear cd ac5;cases nQ:kk.cz with
   | false =>
    have e4:=s4 nQ;rw[e4] at h1 qA;rw[nQ] at CD;have H1:=Hd h1;have HR1:=Hd qA;have D7:=Hd xY;clear h1 qA xY mP tr hg hz GU qH s1 s2 s3 s4 hx Jy e4 nQ;go_wp2_with fail;refine CD.out.mono ?_;rintro e w3 ⟨rfl,rfl⟩;go_wp2_with fail;go_roundw;case rel=>exact⟨left',HR1,H1,D7⟩
    case measure=>exact uN.out
   | true =>
    rw[nQ] at CD;have e3:=s3 nQ;have LQ:kx∈(mapOf (l7 m left)).map (·.1):=NF.2 ⟨_,GU,rfl⟩
    obtain⟨w4,Yu,OI,lV,zY⟩:=cV.delete (P:=prog) qA s2 LQ 251 3 257 underlying251 underlying3;have Cu:kN kx (mapOf (l7 m left))=mapOf (l7 m left'):=by
     rw[←e3];unfold mapOf;rw[Ql (fun k:gq=>au k.p)]
    rw[Cu] at OI;have t4:=cj.eL lV;have sI:((l7 m left).map (·.1)).Nodup:=((Gf m left).map _).nodup HK.out
    have h4:=h1.gone (i:=kx) sI (by rw[Cu];exact OI.map) t4
    rw[e3] at h4;have G5:ae F w w4:=xY.trans (t4.mono (fun j hj=>by subst hj;exact HH.out.fm))
    have fT:w4.rangeLeft mb w.heap.size<wr.rangeLeft mb w.heap.size:=by rw[OI.len];have:=uN.out;rw[qA.len] at this;exact this
    have H4:=Hd h4;have RZ:=Hd OI;have G8:=Hd G5;have HL:=Hd fT;clear h4 OI G5 fT sI t4 lV zY Cu LQ e3 h1 qA xY mP tr hg hz GU qH s1 s2 s3 s4 hx Jy nQ;go_wp2_with fail;refine CD.out.mono ?_;rintro e w3 ⟨rfl,rfl⟩;go_wp2_with fail;go_roundw;case rel=>exact⟨left',RZ,H4,G8⟩
    case measure=>exact HL.out
theorem AC(w:World)(F:Nat→Prop)(cb p most clock:Nat)(ms:Int)(mb:Nat)(m:bU)(h:cj w F cb p most clock ms mb m)(hk:(m.map (·.1)).Nodup):
  Calls prog 243 #[au cb] w fun e w'=>e=.returned (.tuple #[])∧cj w' F cb p most clock ms mb (m.filter fun x => !x.2.cz)∧ae F w w':=by
 have c4:=h.box.cell 4 (.map (some mb)) rfl;have RU:=MJ w F cb p most clock ms mb m h hk;have HD:=Hd RU;clear RU h hk;go_enter func243,ntmps243;go_wp2_with fail;refine HD.out.mono ?_;rintro e w1 ⟨rfl,h1,t1⟩;have H1:=Hd h1;have T1:=Hd t1;clear h1 t1;go_wp2_with fail;go_end0;exact⟨rfl,H1.out,T1.out⟩
def nI(p cb tb:Nat)(σ:StL):Array Value:=#[au p,au cb,ah σ.ai,ah σ.was,.bool σ.open_,.map (some tb)]
structure StG (w:World) (FJ FC:Nat→Prop) (sb b p cb tb most clock:Nat) (ms:Int) (mb:Nat) (m:bU) (ti:List (Nat×Value)) (σ:StL):Prop where
 box:Blk w sb 172 (nI p cb tb σ)
 tm:de w tb ti
 jr:cF w FJ p b σ.j
 ca:cj w FC cb p most clock ms mb m
 apart:∀k,FJ k→¬FC k
 sF:¬FJ sb∧¬FC sb
 tF:¬FJ tb∧¬FC tb
 ok:σ.dead=false→cN σ.n most clock σ.tx σ.j.d.get m
 keys:∀k,k∈ti.map (·.1)↔k∈σ.tx.map (·.1)
 ints:∀x∈ti,∃c:Int,x.2=.int .i64 c
theorem Blk.c6{w:World}{k:Nat}{t:TypeId}{a0 a1 a2 a3 a4 a5:Value}(h:Blk w k t #[a0,a1,a2,a3,a4,a5]):
  w.cell? ⟨k,0,none⟩=some a0∧w.cell? ⟨k,1,none⟩=some a1∧w.cell? ⟨k,2,none⟩=some a2∧w.cell? ⟨k,3,none⟩=some a3∧w.cell? ⟨k,4,none⟩=some a4∧w.cell? ⟨k,5,none⟩=some a5 :=
 ⟨h.cell 0 _ rfl,h.cell 1 _ rfl,h.cell 2 _ rfl,h.cell 3 _ rfl,h.cell 4 _ rfl,h.cell 5 _ rfl⟩
theorem StG.keep{w w':World}{FJ FC:Nat→Prop}{sb b p cb tb most clock:Nat}{ms:Int}{mb:Nat}{m:bU}{ti:List (Nat×Value)}{σ:StL}(h:StG w FJ FC sb b p cb tb most clock ms mb m ti σ)(q:Q w w'):StG w' FJ FC sb b p cb tb most clock ms mb m ti σ :=
 ⟨h.box.stays q,h.tm.same (q.block _ h.tm.lt),h.jr.keep q,h.ca.keep q,h.apart,h.sF,h.tF,h.ok,h.keys,h.ints⟩
def cg(w:World)(F:Nat→Prop)(sb b:Nat)(σ:StL)(K:Nat):Prop :=
 ∃FJ FC p cb tb most clock ms mb m ti,StG w FJ FC sb b p cb tb most clock ms mb m ti σ∧(∀k,FJ k∨FC k∨k=sb∨k=tb→F k)∧(∀k,F k→k<w.heap.size)∧clock≤K
theorem cg.keep{w w':World}{F:Nat→Prop}{sb b:Nat}{σ:StL}{K:Nat}(h:cg w F sb b σ K)(q:Q w w'):cg w' F sb b σ K:=by
 obtain⟨FJ,FC,p,cb,tb,most,clock,ms,mb,m,ti,h1,h2,h3,h4⟩:=h;exact⟨FJ,FC,p,cb,tb,most,clock,ms,mb,m,ti,h1.keep q,h2,fun k hk=>Ψ (h3 k hk) q.size,h4⟩
theorem cg.mono{w:World}{F G:Nat→Prop}{sb b:Nat}{σ:StL}{K K':Nat}(h:cg w F sb b σ K)(k:∀i,F i→G i)(hl:∀i,G i→i<w.heap.size)(hK:K≤K'):cg w G sb b σ K':=by
 obtain⟨FJ,FC,p,cb,tb,most,clock,ms,mb,m,ti,h1,h2,h3,h4⟩:=h;exact⟨FJ,FC,p,cb,tb,most,clock,ms,mb,m,ti,h1,fun i hi=>k i (h2 i hi),hl,My h4 hK⟩
theorem cg.lt{w:World}{F:Nat→Prop}{sb b:Nat}{σ:StL}{K:Nat}(h:cg w F sb b σ K):∀k,F k→k<w.heap.size:=by
 obtain⟨FJ,FC,p,cb,tb,most,clock,ms,mb,m,ti,h1,h2,h3,h4⟩:=h;exact h3
theorem cg.quiet{w w':World}{F:Nat→Prop}{sb b:Nat}{σ:StL}{K K':Nat}(h:cg w F sb b σ K)(q:Q w w')(hK:K≤K'):cg w' (grow F w w') sb b σ K'∧ae F w w' :=
 ⟨(h.keep q).mono (fun k hk=>.inl hk) (fun k hk=>hk.elim (fun hk=>Ψ (h.lt k hk) q.size) (fun hk=>hk.2)) hK,ae.br q⟩
theorem BS(n:Nat)(w:World)(hn:n≤1000000):
  Calls prog 107 #[.int .i64 (n:Nat)] w fun e w'=>e=.returned (.int .i64 (aD n:Nat))∧w=w':=by
 have h:((aD n:Nat):Int)=((n:Int)+2048-1) / 2048:=by unfold aD;omega
 rw[h];clear h;go_enter func107,ntmps107;go_wp2;go_ret;exact⟨rfl,rfl⟩
theorem ML(n:Nat)(w:World)(hn:n≤1000000):
  Calls prog 105 #[.int .i64 (n:Nat)] w fun e w'=>e=.returned (.int .i64 (ak n:Nat))∧w=w':=by
 have hp:=BS n w hn;have hb:aD n≤1000000:=by unfold aD;omega
 have h:((ak n:Nat):Int)=63+(aD n:Int):=by unfold ak;omega
 rw[h];have HP:=Hd hp;clear h hp;go_enter func105,ntmps105;go_wp2_with fail;refine HP.out.mono ?_;rintro e w1 ⟨rfl,rfl⟩;go_wp2_with fail;go_ret;exact⟨rfl,rfl⟩
theorem Nv(n:Nat)(w:World)(hn:n≤1000000):
  Calls prog 109 #[.int .i64 (n:Nat)] w fun e w'=>e=.returned (ah (jv n))∧Q w w':=by
 have hc:=fun (W:World)=>vY n W U
 have hr:=fun (W:World)=>Tryz.strings_Repeat_main ⟨#[0]⟩ 248 W Z Z Z Z
 have hz:(Lib.repeatL [(0:UInt8)] 248)=bg 248:=by decide +kernel
 have kG:=aH n;have HC:=Hd hc;have HR:=Hd hr;have HZ:=Hd hz;clear hc hr hz;go_enter func109,ntmps109;go_wp2_with fail;refine(HC.out _).mono ?_;rintro e w1 ⟨rfl,q1⟩;have dF:=Hd q1;clear q1;go_wp2_with fail;refine(HR.out _).mono ?_;rintro e w2 ⟨rfl,q2⟩;have bJ:=Hd (dF.out.trans q2);clear q2;rw[HZ.out];go_wp2_with fail;go_ret;refine⟨?_,bJ.out⟩;have he:(({ data:=#[67,68,88,66] }:ByteArray)++{ data:=(aB n).toArray })++{ data:=(bg 248).toArray }=⟨(jv n).toArray⟩:=by
  rw[show({ data:=#[67,68,88,66] }:ByteArray)=⟨([67,68,88,66]:Bytes).toArray⟩ from rfl,bytes_append,bytes_append,MY];rfl
 exact RE (fun x=>Ending.returned (.string x)) he
theorem JV(t:Bytes)(i:Nat)(w:World)(hi:(i+1)*256≤t.length)(hl:t.length≤1000000):
  Calls prog 222 #[ah t,.int .i64 (i:Nat)] w fun e w'=>e=.returned (ah (aG t i))∧w=w':=by
 go_enter func222,ntmps222;go_wp2_with fail;go_ret;refine⟨?_,rfl⟩;have he:({ data:=t.toArray }:ByteArray).extract (i*256) ((i+1)*256)=⟨(aG t i).toArray⟩:=by
  rw[eY,show(i+1)*256-i*256=256 by omega];rfl
 exact RE (fun x=>Ending.returned (.string x)) he
end
section
open Go.RowKit
variable {w:World} {FJ FC:Nat→Prop} {sb b p cb tb most clock:Nat} {ms:Int} {mb:Nat} {m:bU} {ti:List (Nat×Value)} {σ:StL}
theorem uT(h:StG w FJ FC sb b p cb tb most clock ms mb m ti σ):
  Calls prog 112 #[au sb] w fun e w'=>e=.returned (.int .i64 (σ.n:Nat))∧w=w':=by
 obtain⟨c0,_⟩:=Blk.c6 h.box;obtain⟨d0,_⟩:=h.jr.box.c8;have hb:=oL w FJ b σ.j.d h.jr.dev;have HB:=Hd hb;clear hb h;show Calls _ _ _ _ fun e w'=>e=.returned (.int .i64 (σ.j.d.l.length:Nat))∧w=w'
 go_enter func112,ntmps112;go_wp2_with fail;refine HB.out.mono ?_;rintro e w1 ⟨rfl,rfl⟩;go_wp2_with fail;go_ret;exact⟨rfl,rfl⟩
theorem Ew(h:StG w FJ FC sb b p cb tb most clock ms mb m ti σ)(hn:σ.n≤4096):
  Calls prog 51 #[au sb] w fun e w'=>e=.returned (.int .i64 (ak σ.n:Nat))∧w=w':=by
 have hb:=uT h;have hf:=ML σ.n w U;have HB:=Hd hb;have HF:=Hd hf;clear hb h hf;go_enter func51,ntmps51;go_wp2_with fail;refine HB.out.mono ?_;rintro e w1 ⟨rfl,rfl⟩;go_wp2_with fail;refine HF.out.mono ?_;rintro e w1 ⟨rfl,rfl⟩;go_wp2_with fail;go_ret;exact⟨rfl,rfl⟩
theorem tB(h:StG w FJ FC sb b p cb tb most clock ms mb m ti σ)(hn:iL σ):
  Calls prog 62 #[au sb] w fun e w'=>e=.returned (.int .i64 (σ.free:Nat))∧Q w w':=by
 have iH:=hn.max;have hb:=fun (W:World) (q:Q w W)=>uT (h.keep q)
 have gK:=jQ σ.n (by have:=hn.big;omega)
 have hf:∀W:World,Calls prog 108 #[ah σ.ai,.int .i64 (σ.n:Nat)] W fun e w'=>e=.returned (.int .i64 (cnt σ.ai (fA σ.ai σ.n)))∧Q W w':=fun W=>Ny σ.ai σ.n W (by have:=hn.map;omega) U U
 have ku:fA σ.ai σ.n=σ.n:=by unfold fA;have:=hn.map;omega
 rw[ku] at hf;obtain⟨c0,c1,c2,_⟩:=Blk.c6 h.box;have dQ:σ.free=cnt σ.ai σ.n:=rfl;rw[dQ];have HB:=Hd hb;have HF:=Hd hf;clear hb h hf ku dQ hn;generalize σ.ai=m1 at *;generalize σ.n=n at *;have KK:=Hd (Q.refl w);go_enter func62,ntmps62;go_wp2_with fail;go_region_held3 (fun w'=>w'.cell? ⟨sb,2,none⟩=some (ah m1))
  (first|exact c2|exact aI δ c2)
  (first
   | (go_at_call 112;with_reducible refine(HB.out _ ω).mono ?_;rintro e w5 ⟨rfl,rfl⟩)
   | (go_at_call 108;with_reducible refine(HF.out _).mono ?_;rintro e w6 ⟨rfl,q6⟩;have s':Q w w6:=Q.trans ω q6;clear KK;have KK:=Hd s';clear s' q6))
 all_goals
  go_wp2_with fail;go_ret;exact⟨rfl,ω⟩
theorem Gh(i:Int)(h:StG w FJ FC sb b p cb tb most clock ms mb m ti σ)(hn:σ.n≤4096):
  Calls prog 110 #[au sb,.int .i64 i] w fun e w'=>e=.returned (.bool (σ.cP i))∧w=w':=by
 have hb:=uT h;have hf:=Ew h hn;have HB:=Hd hb;have HF:=Hd hf;clear hb h hf;unfold StL.cP;generalize ak σ.n=fd at *;by_cases hi:(fd:Int)≤i
 ·have hb1:decide ((fd:Int)≤i)=true:=NO hi
  have e1:decide ((fd:Int)≤i∧i<(σ.n:Int))=decide (i<(σ.n:Int)):=by simp[hi]
  rw[e1];generalize σ.n=n at *;clear e1;go_enter func110,ntmps110;go_wp2_with fail;refine HF.out.mono ?_;rintro e w1 ⟨rfl,rfl⟩;go_wp2_with fail;refine HB.out.mono ?_;rintro e w1 ⟨rfl,rfl⟩;go_wp2_with fail;go_ret;exact⟨rfl,rfl⟩
 ·have e1:decide ((fd:Int)≤i∧i<(σ.n:Int))=false:=by simp[hi]
  rw[e1];generalize σ.n=n at *;clear e1;go_enter func110,ntmps110;go_wp2_with fail;refine HF.out.mono ?_;rintro e w1 ⟨rfl,rfl⟩;go_wp2_with fail;go_ret;exact⟨rfl,rfl⟩
theorem Ey(o:Bool)(h:StG w FJ FC sb b p cb tb most clock ms mb m ti σ):
  Calls prog 174 #[au sb,.bool o] w fun e w'=>e=.returned (.int .i64 (σ.state o))∧w=w':=by
 obtain⟨c0,c1,c2,c3,c4,c5⟩:=Blk.c6 h.box;obtain⟨d0,_⟩:=h.jr.box.c8;have hd:=JQ w FJ b σ.j.d h.jr.dev;have he:σ.j.d.dead=σ.dead:=rfl;rw[he] at hd;have HD:=Hd hd;clear hd h he;unfold StL.state;generalize σ.dead=dd at *;generalize σ.open_=oo at *;cases dd with
 | true =>
  simp only[QQ];go_enter func174,ntmps174;go_wp2_with fail;refine HD.out.mono ?_;rintro e w1 ⟨rfl,rfl⟩;go_wp2_with fail;go_ret;exact⟨rfl,rfl⟩
 | false =>
  simp only[N0,PR];cases oo<;>cases o
  all_goals
   go_enter func174,ntmps174;go_wp2_with fail;refine HD.out.mono ?_;rintro e w1 ⟨rfl,rfl⟩;go_wp2_with fail;go_ret;exact⟨rfl,rfl⟩
end
section
open Go.RowKit
variable {w w':World} {FJ FC F:Nat→Prop} {sb b p cb tb most clock clock':Nat} {ms ms':Int} {mb:Nat} {m m':bU} {ti ti':List (Nat×Value)} {σ σ':StL} {K:Nat}
theorem StG.ne(h:StG w FJ FC sb b p cb tb most clock ms mb m ti σ):sb≠tb:=rX h.box h.tm
theorem StG.cache(h:StG w FJ FC sb b p cb tb most clock ms mb m ti σ)(t:ae FC w w')(hc:cj w' (grow FC w w') cb p most clock' ms' mb m')(bQ:σ.dead=false→cN σ.n most clock' σ.tx σ.j.d.get m'):StG w' FJ (grow FC w w') sb b p cb tb most clock' ms' mb m' ti σ:=by
 have OJ:=h.box.lt;have ay:=h.tm.lt;exact⟨t.blk h.box h.sF.2,h.tm.same (t.block _ h.tm.lt h.tF.2),h.jr.beside t (fun k hk hc=>h.apart k hk hc),hc,fun k hk hg=>hg.elim (fun hg=>h.apart k hk hg) (fun hg=>by have:=h.jr.lt k hk;omega),⟨h.sF.1,fun hg=>hg.elim h.sF.2 (fun hg=>U)⟩,⟨h.tF.1,fun hg=>hg.elim h.tF.2 (fun hg=>U)⟩,bQ,h.keys,h.ints⟩
theorem StG.hM(h:StG w FJ FC sb b p cb tb most clock ms mb m ti σ)(t:ae (fun k=>k=sb) w w')(hb:Blk w' sb 172 (nI p cb tb σ'))(hj:σ'.j=σ.j)(mO:σ'.tx=σ.tx):StG w' FJ FC sb b p cb tb most clock ms mb m ti σ':=by
 refine⟨hb,h.tm.same (t.block _ h.tm.lt h.ne.symm),by rw[hj];exact h.jr.beside t (fun k hk e=>h.sF.1 (e▸hk)),h.ca.beside t (fun k hk e=>h.sF.2 (e▸hk)),h.apart,h.sF,h.tF,fun hd=>?_,by rw[mO];exact h.keys,h.ints⟩
 have e1:σ'.dead=σ.dead:=by unfold StL.dead;rw[hj]
 have e2:σ'.n=σ.n:=by unfold StL.n;rw[hj]
 rw[e1] at hd;rw[e2,mO,hj];exact h.ok hd
theorem cg.FO(h:StG w FJ FC sb b p cb tb most clock ms mb m ti σ)(hF:∀k,FJ k∨FC k∨k=sb∨k=tb→F k)(ay:∀k,F k→k<w.heap.size)(t:ae FC w w')(hc:cj w' (grow FC w w') cb p most clock' ms' mb m')(bQ:σ.dead=false→cN σ.n most clock' σ.tx σ.j.d.get m')(hK:clock'≤K):
  cg w' (grow F w w') sb b σ K∧ae F w w':=by
 have tF:ae F w w':=t.mono (fun k hk=>hF k (.inr (.inl hk)))
 refine⟨⟨_,_,_,_,_,_,_,_,_,_,_,h.cache t hc bQ,fun k hk=>?_,fun k hk=>hk.elim (fun hk=>Ψ (ay k hk) t.size) (fun hk=>hk.2),hK⟩,tF⟩
 rcases hk with hk|hk|hk|hk
 ·exact .inl (hF k (.inl hk))
 ·exact hk.elim (fun hk=>.inl (hF k (.inr (.inl hk)))) .inr
 ·exact .inl (hF k (.inr (.inr (.inl hk))))
 ·exact .inl (hF k (.inr (.inr (.inr hk))))
theorem vj(w:World)(F:Nat→Prop)(sb b:Nat)(σ:StL)(K:Nat)(i:Int)(h:cg w F sb b σ K)(hn:iL σ)(hK:K≤1000000000000000000):
  Calls prog 50 #[au sb,.int .i64 i] w fun e w'=>e=.returned (.tuple #[ah (σ.read i).1,.int .i64 (σ.read i).2])∧cg w' (grow F w w') sb b σ (K+1)∧ae F w w':=by
 have dG:=(h.quiet (Q.refl w) (ab3 K));obtain⟨FJ,FC,p,cb,tb,most,clock,ms,mb,m,ti,hg,hF,ay,bL⟩:=h;obtain⟨c0,c1,c2,c3,c4,c5⟩:=Blk.c6 hg.box;obtain⟨d0,_⟩:=hg.jr.box.c8;have hd:=JQ w FJ b σ.j.d hg.jr.dev;have he:σ.j.d.dead=σ.dead:=rfl;rw[he] at hd;have iG:=Gh i hg hn.max;cases lW:σ.dead with
 | true =>
  have hr:σ.read i=([],4):=by unfold StL.read;rw[lW,Φ rfl]
  rw[lW] at hd;rw[hr];have HD:=Hd hd;have HS:=Hd dG;clear hd iG hg dG hn hF ay hr he;go_enter func50,ntmps50;go_wp2_with fail;refine HD.out.mono ?_;rintro e w1 ⟨rfl,rfl⟩;go_wp2_with fail;go_ret2;exact⟨rfl,HS.out.1,HS.out.2⟩
 | false =>
  rw[lW] at hd;cases gX:σ.cP i with
  | false =>
   have hr:σ.read i=([],2):=by unfold StL.read;rw[lW,gX];rfl
   rw[gX] at iG;rw[hr];have HD:=Hd hd;have HS:=Hd dG;have rJ:=Hd iG;clear hd iG hg dG hn hF ay hr he;go_enter func50,ntmps50;go_wp2_with fail;refine HD.out.mono ?_;rintro e w1 ⟨rfl,rfl⟩;go_wp2_with fail;refine rJ.out.mono ?_;rintro e w1 ⟨rfl,rfl⟩;go_wp2_with fail;go_ret2;exact⟨rfl,HS.out.1,HS.out.2⟩
  | true =>
   rw[gX] at iG;have tT:=gX;unfold StL.cP at tT;simp only[Up] at tT;obtain⟨j,rfl⟩:∃j:Nat,i=(j:Nat):=⟨i.toNat,U⟩;have hjn:j<σ.n:=U;have hr:σ.read (j:Nat)=(bH σ.tx j (σ.j.d.get j),0):=by unfold StL.read;rw[lW,gX];rfl
   obtain⟨n1,n2,n3,n4,n5,n6⟩:=hn.num lW;have Cw:σ.j.d.read (j:Nat)=(σ.j.d.get j,0):=by
    unfold af.read;rw[af.gC lW j hjn,Φ rfl];rfl
   have dz:=AQ w FJ b σ.j.d (j:Nat) hg.jr.dev hn.max (fun _=>by have:=n1.eK lW;omega)
   rw[Cw] at dz;have ac7:=FG w FC cb p b σ.n most clock ms mb m σ.tx σ.j.d.get j hg.ca (hg.ok lW) d0 ⟨by have:=tT.1;unfold ak at this;omega,hjn⟩ U dz (fun W q hW=>Qt W FC cb p σ.n most clock ms mb m σ.tx σ.j.d.get hW (hg.ok lW) U)
   rw[hr];have HD:=Hd hd;have rJ:=Hd iG;have Fw:=Hd ac7;have HG:=Hd hg;have HF:=Hd hF;have iI:=Hd ay;clear hd iG ac7 dz Cw dG hF ay hr hg n1 n2 n3 n4 n5 n6 hn gX he tT;go_enter func50,ntmps50;go_wp2_with fail;refine HD.out.mono ?_;rintro e w1 ⟨rfl,rfl⟩;go_wp2_with fail;refine rJ.out.mono ?_;rintro e w1 ⟨rfl,rfl⟩;go_wp2_with fail;refine Fw.out.mono ?_;rintro e w2 ⟨rfl,t2,m2,ms2,h2,o2⟩;have hend:=cg.FO HG.out HF.out iI.out t2 h2 (fun _=>o2) (K:=K+1) U
   have HE:=Hd hend;clear t2 h2 o2 hend;go_wp2_with fail;go_ret2;exact⟨rfl,HE.out.1,HE.out.2⟩
theorem WM(w:World)(F:Nat→Prop)(sb b:Nat)(σ:StL)(K:Nat)(h:cg w F sb b σ K):
  Calls prog 93 #[au sb] w fun e w'=>e=.returned (.int .i64 σ.begin.2)∧cg w' (grow F w w') sb b σ.begin.1 K∧ae F w w':=by
 have dG:=(h.quiet (Q.refl w) (Ω K));obtain⟨FJ,FC,p,cb,tb,most,clock,ms,mb,m,ti,hg,hF,ay,bL⟩:=h;have aC:=Ey false hg;by_cases hz:σ.state false=0
 ·have hb:σ.begin=({ σ with open_:=true,was:=σ.ai },0):=by unfold StL.begin;rw[η (by rw[hz];decide)]
  rw[hb];rw[hz] at aC;obtain⟨c0,c1,c2,c3,c4,c5⟩:=Blk.c6 hg.box;have f3:=hg.box.frozen 3;have f4:=hg.box.frozen 4;have t1:ae (fun k=>k=sb) w ((w.setCell ⟨sb,4,none⟩ (.bool true)).setCell ⟨sb,3,none⟩ (ah σ.ai)):=ae.setCell (a:=⟨sb,3,none⟩) (ae.setCell (a:=⟨sb,4,none⟩) (ae.refl (fun k=>k=sb) w) (.inl rfl) _) (.inl rfl) _
  have hb1:Blk ((w.setCell ⟨sb,4,none⟩ (.bool true)).setCell ⟨sb,3,none⟩ (ah σ.ai)) sb 172 (nI p cb tb { σ with open_:=true,was:=σ.ai }):=(hg.box.set 4 (.bool true)).set 3 (ah σ.ai);have h1:=hg.hM t1 hb1 rfl rfl;have hsF:F sb:=hF sb (.inr (.inr (.inl rfl)));have tF:ae F w ((w.setCell ⟨sb,4,none⟩ (.bool true)).setCell ⟨sb,3,none⟩ (ah σ.ai)):=t1.mono (fun k hk=>by subst hk;exact hsF)
  have hend:cg ((w.setCell ⟨sb,4,none⟩ (.bool true)).setCell ⟨sb,3,none⟩ (ah σ.ai)) (grow F w ((w.setCell ⟨sb,4,none⟩ (.bool true)).setCell ⟨sb,3,none⟩ (ah σ.ai))) sb b { σ with open_:=true,was:=σ.ai } K:=⟨_,_,_,_,_,_,_,_,_,_,_,h1,fun k hk=>.inl (hF k hk),fun k hk=>hk.elim (fun hk=>Ψ (ay k hk) tF.size) (fun hk=>hk.2),bL⟩
  have HS:=Hd aC;have HE:=Hd hend;have HT:=Hd tF;clear aC hend tF h1 hb1 t1 hg hb hF ay dG;go_enter func93,ntmps93;go_wp2_with fail;refine HS.out.mono ?_;rintro e w1 ⟨rfl,rfl⟩;go_wp2_with fail;go_ret;exact⟨rfl,HE.out,HT.out⟩
 ·have hb:σ.begin=(σ,σ.state false):=by unfold StL.begin;rw[Φ hz]
  rw[hb];have e1:(σ.state false==0)=false:=Γ.2 hz;have HS:=Hd aC;have HE:=Hd dG;clear aC hg hb hF ay dG hz;simp only at HS HE ⊢;generalize σ.state false=x at *;go_enter func93,ntmps93;go_wp2_with fail;refine HS.out.mono ?_;rintro e w1 ⟨rfl,rfl⟩;go_wp2_with fail;go_ret;exact⟨rfl,HE.out.1,HE.out.2⟩
end
section
open Go.RowKit
theorem Az(n:Nat)(w:World)(hn:n≤1000000):
  Calls prog 151 #[.int .i64 (n:Nat)] w fun e w'=>e=.returned (.int .i64 (aD n:Nat))∧w=w':=by
 have h:((aD n:Nat):Int)=((n:Int)+2047) / 2048:=by unfold aD;omega
 rw[h];clear h;go_enter func151,ntmps151;go_wp2;go_ret;exact⟨rfl,rfl⟩
theorem Lv(n:Nat)(w:World)(hn:n≤1000000):
  Calls prog 156 #[.int .i64 (n:Nat)] w fun e w'=>e=.returned (ah (jv n))∧Q w w':=by
 have hc:=fun (W:World)=>ru n W U
 obtain⟨i,hi,bY,bB,aW⟩:=info_parts ze;have km:=fun (W:World)=>run_make (P:=prog) W 84 5 _ _ underlying84 hi bY .i64 .i64 248 248 U (aac _) (by rw[aW];omega) U
 have hb:=fun (W:World)=>(ci.zeros W (248:Int).toNat 5).back (P:=prog) 84 9 5 (248:Int).toNat underlying84 underlying5 underlying9
 simp only[Of] at hb;rw[show List.replicate (248:Int).toNat (0:UInt8)=bg 248 from rfl] at hb
 simp only[bB,abk,show(Value.int IntKind.u8 0).cells=#[.int .u8 0] from rfl] at km
 have qp:(({ data:=#[67,68,88,66] }:ByteArray)++{ data:=(aB n).toArray })=⟨(([67,68,88,66]:Bytes)++aB n).toArray⟩:=by
  rw[show({ data:=#[67,68,88,66] }:ByteArray)=⟨([67,68,88,66]:Bytes).toArray⟩ from rfl,bytes_append]
 have fT:(([67,68,88,66]:Bytes)++aB n).length=8:=by rw[Δ,aH];rfl
 have hte:jv n=(([67,68,88,66]:Bytes)++aB n)++bg 248:=by unfold jv;rw[MY]
 have kT:IntKind.u32.wrap (n:Int)=(n:Int):=by simp[IntKind.wrap,IntKind.bits,IntKind.signed];omega
 have kV:(n:Int)%4294967296=(n:Int):=U;have HC:=Hd hc;have FE:=Hd qp;have kG:=aH n;rw[hte];clear hc qp hte;generalize iQ:(([67,68,88,66]:Bytes)++aB n)++bg 248=res at *;have vR:=Hd iQ;clear iQ;generalize aB n=fl at *;generalize hm:(248:Int).toNat=m at *;clear hm;go_enter func156,ntmps156;go_wp2_with fail;refine(HC.out _).mono ?_;rintro e w1 ⟨rfl,q1⟩;have dF:=Hd q1;clear q1;go_wp2_with fail;rw[FE.out];generalize ([67,68,88,66]:Bytes)++fl=tt at *;have km1:=km w1;have hb1:=hb w1;have hq:=Q.alloc w1 (.cells (madeCells #[.int .u8 0] m) 5);generalize w1.alloc (.cells (madeCells #[.int .u8 0] m) 5)=w2 at *;have bJ:=Hd (dF.out.trans hq);clear km hb hq;go_wp2_with fail;go_ret;exact⟨by rw[←vR.out];exact RE (fun x=>Ending.returned (.string x)) (bytes_append _ _),bJ.out⟩
structure dm (w:World) (FJ:Nat→Prop) (sb b p:Nat) (tv:Value) (σ:StL):Prop where
 box:Blk w sb 141 #[au p,.bool σ.open_,tv]
 jr:bp w FJ p b σ.j
 sF:¬FJ sb
 tx:SlO w FJ tv σ.tx.length 2 (aN σ.tx)
def cQ(w:World)(F:Nat→Prop)(sb b:Nat)(σ:StL):Prop :=
 ∃FJ p tv,dm w FJ sb b p tv σ∧(∀k,FJ k∨k=sb→F k)∧(∀g off n cap,tv=.slice (some ⟨g,off,none⟩) n cap→0<σ.tx.length→F g)∧(∀k,F k→k<w.heap.size)
theorem SlO.stay{w w':World}{F:Nat→Prop}{v:Value}{n size:Nat}{xs:List Value}(h:SlO w F v n size xs)(q:Q w w'):SlO w' F v n size xs :=
 ⟨h.1.stays q,fun hn=>by obtain⟨b,off,e,hb,hF⟩:=h.2 hn;exact⟨b,off,e,Ψ hb q.size,hF⟩⟩
theorem dm.keep{w w':World}{FJ:Nat→Prop}{sb b p:Nat}{tv:Value}{σ:StL}(h:dm w FJ sb b p tv σ)(q:Q w w'):dm w' FJ sb b p tv σ :=
 ⟨h.box.stays q,h.jr.keep q,h.sF,h.tx.stay q⟩
theorem cQ.keep{w w':World}{F:Nat→Prop}{sb b:Nat}{σ:StL}(h:cQ w F sb b σ)(q:Q w w'):cQ w' F sb b σ:=by
 obtain⟨FJ,p,tv,h1,h2,h3,h4⟩:=h;exact⟨FJ,p,tv,h1.keep q,h2,h3,fun k hk=>Ψ (h4 k hk) q.size⟩
theorem Blk.c3f{w:World}{k:Nat}{t:TypeId}{a0 a1 a2:Value}(h:Blk w k t #[a0,a1,a2]):
  w.cell? ⟨k,0,none⟩=some a0∧w.cell? ⟨k,1,none⟩=some a1∧w.cell? ⟨k,2,none⟩=some a2∧w.frozen? ⟨k,0,none⟩=false∧w.frozen? ⟨k,1,none⟩=false∧w.frozen? ⟨k,2,none⟩=false :=
 ⟨h.cell 0 _ rfl,h.cell 1 _ rfl,h.cell 2 _ rfl,h.frozen 0,h.frozen 1,h.frozen 2⟩
section
variable {w:World} {FJ:Nat→Prop} {sb b p:Nat} {tv:Value} {σ:StL}
theorem nK(h:dm w FJ sb b p tv σ):
  Calls prog 150 #[au sb] w fun e w'=>e=.returned (.int .i64 (σ.n:Nat))∧w=w':=by
 obtain⟨c0,_⟩:=h.box.c3f;obtain⟨j0,_⟩:=h.jr.box.c8;obtain⟨lv,pv,hd⟩:=h.jr.dev;obtain⟨la,lc,rfl,_⟩:=hd.gw;obtain⟨d0,_⟩:=hd.box.c4;have hn:σ.n=σ.j.d.l.length:=rfl;rw[hn];clear h hd hn;go_enter func150,ntmps150;go_wp2;go_ret;exact⟨rfl,rfl⟩
theorem yR(h:dm w FJ sb b p tv σ)(hn:σ.n≤4096):
  Calls prog 76 #[au sb] w fun e w'=>e=.returned (.int .i64 (ak σ.n:Nat))∧w=w':=by
 have hb:=nK h;have hp:=Az σ.n w U;have bN:aD σ.n≤1000000:=by unfold aD;omega
 have he:((ak σ.n:Nat):Int)=63+(aD σ.n:Int):=by unfold ak;omega
 rw[he];have HB:=Hd hb;have HP:=Hd hp;clear he hb hp h;go_enter func76,ntmps76;go_wp2_with fail;refine HB.out.mono ?_;rintro e w1 ⟨rfl,rfl⟩;go_wp2_with fail;refine HP.out.mono ?_;rintro e w1 ⟨rfl,rfl⟩;go_wp2_with fail;go_ret;exact⟨rfl,rfl⟩
theorem SlO.mN(h:SlO w FJ tv σ.tx.length 2 (aN σ.tx)):∃a cap,tv=.slice a σ.tx.length cap∧∀k (hk:k<σ.tx.length),∃g off,a=some ⟨g,off,none⟩∧w.cell? ⟨g,off+k*2,none⟩=some (.int .i64 (σ.tx[k].1:Nat))∧w.cell? ⟨g,off+k*2+1,none⟩=some (ah σ.tx[k].2):=by
 obtain⟨a,cap,e,hc⟩:=h.value;refine⟨a,cap,e,fun k hk=>?_⟩
 obtain⟨g,off,rfl,_,_,aP⟩:=hc U;have h1:=fQ σ.tx k hk;exact⟨g,off,rfl,aP _ _ h1.1,by rw[P0];exact aP _ _ h1.2⟩
theorem AW(l:List WrL)(hr:l8 l)(k:Nat)(hk:k<l.length)(s:Bytes):bH l l[k].1 s=l[k].2:=by
 refine uz l l[k] s (MA hk) (fun x hx e=>?_)
 obtain⟨j,hj,rfl⟩:=QR hx;have hp:=Ts.1 hr;rcases abl j k with h|h|h
 ·have:=hp j k hj hk h;omega
 ·subst h;rfl
 ·have:=hp k j hk hj h;omega
theorem EN(h:dm w FJ sb b p tv σ)(hn:σ.n≤4096)(hd:σ.dead=false)(hp:σ.j.d.p.length≤1000000)(hr:l8 σ.tx)(hl:σ.tx.length≤1000)(i:Nat)(hi:i<σ.n):
  Calls prog 158 #[au sb,.int .i64 (i:Nat)] w fun e w'=>e=.returned (ah (σ.get i))∧Q w w':=by
 have dz:=GD w FJ b σ.j.d (i:Nat) h.jr.dev hn (fun _=>hp)
 have ug:σ.j.d.read (i:Nat)=(σ.j.d.get i,0):=by unfold af.read;rw[af.gC hd i hi,Φ rfl];rfl
 rw[ug] at dz;obtain⟨a,cap,rfl,aP⟩:=h.tx.mN;obtain⟨c0,c1,c2,_⟩:=h.box.c3f;obtain⟨j0,_⟩:=h.jr.box.c8;have RJ:=fun (k:Nat) (hk:k<σ.tx.length) (e:σ.tx[k].1=i)=>(show σ.get i=σ.tx[k].2 from by unfold StL.get;rw[←e];exact AW σ.tx hr k hk _)
 have LJ:(∀k (hk:k<σ.tx.length),σ.tx[k].1≠i)→σ.get i=σ.j.d.get i:=fun hx=>by
  unfold StL.get;exact dM _ _ _ (fun x mh e=>by obtain⟨k,hk,rfl⟩:=QR mh;exact hx k hk e)
 have iO:=Hd dz;have HC:=Hd aP;have HH:=Hd RJ;have HM:=Hd LJ;clear dz ug aP RJ LJ h hd hp hr hn;generalize σ.get i=res at *;generalize σ.j.d.get i=res0 at *;go_enter func158,ntmps158;go_wp2_with fail;go_loop [5] (fun v=>∃k:Nat,v=.int .i64 (k:Nat)∧k≤σ.tx.length∧Hid (∀j (hj:j<σ.tx.length),j<k→σ.tx[j].1≠i)) (fun v=>σ.tx.length-(intOf v).toNat)
 case atStart=>exact⟨0,rfl,MD _,Hd (fun j hj h=>U)⟩
 case round =>
  obtain⟨k,rfl,hk,HN⟩:=hrel;by_cases ay:k<σ.tx.length
  ·have bq:(k:Int)<(σ.tx.length:Int):=U
   have lT:(0:Int)≤(k:Int):=U;obtain⟨g,off,rfl,x1,x2⟩:=HC.out k ay;have hit:=HH.out k ay;have gU:σ.tx[k].1≠i→∀j (hj:j<σ.tx.length),j<k+1→σ.tx[j].1≠i:=fun aU j hj h=>by
    by_cases e:j=k
    ·subst e;exact aU
    ·exact HN.out j hj U
   have HIT:=Hd hit;have qB:=Hd gU;clear hit gU HH HN;generalize σ.tx[k]=x at *;obtain⟨xi,xs⟩:=x;simp only at x1 x2 HIT qB;by_cases he:xi=i
   ·have e1:((xi:Int)==(i:Int))=true:=by rw[he];exact acr _
    have iQ:=HIT.out he;subst he;subst iQ;go_wp2_with fail;go_ret;exact⟨rfl,Q.refl _⟩
   ·have e1:((xi:Int)==(i:Int))=false:=Γ.2 U
    have gU:=qB.out he;have ai0:=Hd gU;clear gU;go_wp2_with fail;go_round;case rel=>exact⟨k+1,by go_num,U,ai0⟩
    case measure=>simp[intOf];omega
  ·have bq:¬(k:Int)<(σ.tx.length:Int):=U
   have iQ:=HM.out (fun j hj=>HN.out j hj U)
   subst iQ;go_wp2_with fail;refine iO.out.mono ?_;rintro e w1 ⟨rfl,q1⟩;have dF:=Hd q1;clear q1;go_wp2_with fail;go_ret;exact⟨rfl,dF.out⟩
def StL.gh(σ:StL)(k:Nat):Bytes:=((List.range k).map fun i=>σ.get (63+i)).flatten
theorem XU(σ:StL)(k:Nat):σ.gh (k+1)=σ.gh k++σ.get (63+k):=by
 unfold StL.gh;rw[UV,Pu,T0];simp
theorem ce.gh{K:Nat}{σ:StL}{fr:List (List WrL)}{C:Nat→Bytes}(h:ce K σ fr C):σ.gh (aD σ.n)=σ.ai:=by
 have hf:=jH σ.n h.big h.max;rw[h.now];unfold StL.gh kD;congr 1;exact P4 (fun i hi=>h.get _ U (by have:=Sa.1 hi;unfold ak at hf;omega))
theorem Lx(h:dm w FJ sb b p tv σ)(hb:128≤σ.n)(hn:σ.n≤4096)(hd:σ.dead=false)(hp:σ.j.d.p.length≤1000000)(hr:l8 σ.tx)(hl:σ.tx.length≤1000)(hg:∀i,i<σ.n→(σ.get i).length=256):
  Calls prog 149 #[au sb] w fun e w'=>e=.returned (ah (σ.gh (aD σ.n)))∧Q w w':=by
 have gK:63+aD σ.n<σ.n∧aD σ.n≤2:=by have:=jH σ.n hb hn;unfold ak at this;omega
 have iG:=fun (W:World) (q:Q w W) (i:Nat) (hi:i<σ.n)=>EN (h.keep q) hn hd hp hr hl i hi
 have dZ:=fun (W:World) (q:Q w W)=>nK (h.keep q)
 have nO:=fun (W:World)=>Az σ.n W U
 have nA:=XU σ;have qp:∀k,k≤2→(σ.gh k).length=256*k:=fun k hk=>by
  match k,hk with
  | 0,_=>rfl
  | 1,_=>rw[nA,Δ,hg _ U];rfl
  | 2,_=>rw[nA,nA,Δ,Δ,hg _ U,hg _ U];rfl
 have rJ:=Hd iG;have iV:=Hd dZ;have wP:=Hd nO;have CQ:=Hd nA;have FE:=Hd qp;have HG:=Hd hg;have sO:=Hd gK.1;have Ko:=gK.2;clear iG dZ nO nA qp hg gK h hd hp hr hl;generalize aD σ.n=pn at *;go_enter func149,ntmps149;go_wp2_with fail;go_loopw [3,4] (fun t i wr=>∃k:Nat,i=.int .i64 (k:Nat)∧k≤pn∧t=ah (σ.gh k)∧Hid (Q w wr)) (fun _ i _=>pn-(intOf i).toNat)
 case atStart=>exact⟨0,rfl,MD _,rfl,Hd (Q.refl _)⟩
 case round =>
  obtain⟨k,rfl,hk,rfl,HQ⟩:=hrel;have fT:=FE.out k U;have aC:=CQ.out k;by_cases ay:k<pn
  ·have bq:(k:Int)<(pn:Int):=U
   have zC:=fun (W:World) (q:Q w W)=>rJ.out W q (63+k) (by have:=sO.out;omega)
   have pV:=HG.out (63+k) (by have:=sO.out;omega)
   have HDK:=Hd zC;have aX:=Hd aC;clear zC aC;generalize σ.get (63+k)=gk at *;generalize σ.gh k=bk at *;go_wp2_with fail;refine(iV.out _ HQ.out).mono ?_;rintro e w1 ⟨rfl,rfl⟩;go_wp2_with fail;refine(wP.out _).mono ?_;rintro e w1 ⟨rfl,rfl⟩;go_wp2_with fail;refine(HDK.out _ HQ.out).mono ?_;rintro e w2 ⟨rfl,q2⟩;have bJ:=Hd (HQ.out.trans q2);clear q2;go_wp2_with fail;rw[bytes_append];go_roundw;case rel=>exact⟨k+1,by go_num,U,by rw[aX.out],bJ⟩
   case measure=>simp[intOf];omega
  ·have bq:¬(k:Int)<(pn:Int):=U
   obtain rfl:k=pn:=U;clear aC;go_wp2_with fail;refine(iV.out _ HQ.out).mono ?_;rintro e w1 ⟨rfl,rfl⟩;go_wp2_with fail;refine(wP.out _).mono ?_;rintro e w1 ⟨rfl,rfl⟩;go_wp2_with fail;go_ret;exact⟨rfl,HQ.out⟩
end
end
section
open Go.RowKit
theorem oT(l m:List WrL)(w:WrL)(h:∀y∈l,y.1<w.1):bM (l++m) w=l++bM m w:=by
 induction l with
 | nil=>rfl
 | cons y l ih=>rw[PC,bM,Φ (h y (Nm ..)),ih (fun x hx=>h x (M1 _ hx))];rfl
theorem Ha(l m:List WrL)(w:WrL)(h:∃y∈l,w.1≤y.1):bM (l++m) w=bM l w++m:=by
 induction l with
 | nil=>obtain⟨y,hy,_⟩:=h;simp at hy
 | cons y l ih =>
  rw[PC,bM,bM];by_cases h1:y.1<w.1
  ·rw[Φ h1,Φ h1,ih]
   ·rfl
   ·obtain⟨x,hx,mh⟩:=h
    rcases NL.1 hx with rfl|hx
    ·omega
    ·exact⟨x,hx,mh⟩
  ·rw[η h1,η h1]
   by_cases h2:y.1=w.1
   ·rw[Φ h2,Φ h2];rfl
   ·rw[η h2,η h2];rfl
def oh(tx:List WrL)(w:WrL)(k:Nat):Bool×List WrL :=
 if ∃y∈tx.take k,w.1≤y.1 then(true,bM (tx.take k) w) else(false,tx.take k)
theorem X5(tx:List WrL)(w:WrL)(hr:l8 tx)(k:Nat)(hk:k<tx.length):
  oh tx w (k+1)=if (oh tx w k).1=true then(true,(oh tx w k).2++[tx[k]]) else
   if w.1≤tx[k].1 then(true,if tx[k].1=w.1 then(oh tx w k).2++[w] else(oh tx w k).2++[w]++[tx[k]]) else(false,(oh tx w k).2++[tx[k]]):=by
 have hs:tx.take (k+1)=tx.take k++[tx[k]]:=M2 hk;unfold oh;rw[hs];by_cases h:∃y∈tx.take k,w.1≤y.1
 ·rw[Φ h,Φ (by obtain⟨y,hy,h2⟩:=h;exact⟨y,No.2 (.inl hy),h2⟩),Φ rfl,Ha _ _ _ h]
 ·have e0:(if (∃y∈tx.take k,w.1≤y.1) then(true,bM (tx.take k) w) else(false,tx.take k))=(false,tx.take k):=η h
  rw[e0];simp only[N0,PR];have hl:∀y∈tx.take k,y.1<w.1:=fun y hy=>by
   rcases adl y.1 w.1 with h1|h1
   ·exact h1
   ·exact absurd ⟨y,hy,h1⟩ h
  by_cases h2:w.1≤tx[k].1
  ·rw[Φ ⟨tx[k],No.2 (.inr (M3.2 rfl)),h2⟩,Φ h2,oT _ _ _ hl,bM,η U]
   by_cases h3:tx[k].1=w.1
   ·rw[Φ h3,Φ h3]
   ·rw[η h3,η h3];simp
  ·rw[η (by
    rintro⟨y,hy,h4⟩;rcases No.1 hy with hy|hy
    ·exact h ⟨y,hy,h4⟩
    ·rw[M3.1 hy] at h4;exact h2 h4),η h2]
theorem vu(tx:List WrL)(w:WrL):bM tx w=if (oh tx w tx.length).1=true then(oh tx w tx.length).2 else(oh tx w tx.length).2++[w]:=by
 unfold oh;rw[N5];by_cases h:∃y∈tx,w.1≤y.1
 ·rw[Φ h,Φ rfl]
 ·rw[η h]
  simp only[N0,PR];have hl:∀y∈tx,y.1<w.1:=fun y hy=>by
   rcases adl y.1 w.1 with h1|h1
   ·exact h1
   ·exact absurd ⟨y,hy,h1⟩ h
  have:=oT tx [] w hl;rw[ON] at this;exact this
theorem FF(tx:List WrL)(w:WrL)(hr:l8 tx)(k:Nat)(hk:k<tx.length)(h:(oh tx w k).1=true):tx[k].1≠w.1∧¬tx[k].1<w.1:=by
 unfold oh at h;split at h
 ·rename_i h1
  obtain⟨y,hy,h2⟩:=h1;obtain⟨j,hj,rfl⟩:=QR hy;rw[Mz] at hj;have:=Ts.1 hr j k U hk U;rw[abm] at h2;omega
 ·simp at h
theorem sg(tx:List WrL)(w:WrL)(k:Nat):(oh tx w k).2.length≤k+1:=by
 unfold oh;split
 ·have:∀l:List WrL,(bM l w).length≤l.length+1:=fun l=>by
   induction l with
   | nil=>exact Ω _
   | cons y l ih =>
    rw[bM];split
    ·simp only[Mu];omega
    ·split<;>simp only[Mu]<;>omega
  have h1:=this (tx.take k);rw[Mz] at h1;show(bM (tx.take k) w).length≤k+1;omega
 ·show(tx.take k).length≤k+1
  rw[Mz];omega
theorem Sl.mN{w:World}{v:Value}{tx:List WrL}(h:Sl w v tx.length 2 (aN tx)):∃a cap,v=.slice a tx.length cap∧∀k (hk:k<tx.length),∃g off,a=some ⟨g,off,none⟩∧w.cell? ⟨g,off+k*2,none⟩=some (.int .i64 (tx[k].1:Nat))∧w.cell? ⟨g,off+k*2+1,none⟩=some (ah tx[k].2):=by
 obtain⟨a,cap,rfl,hc⟩:=h.value;refine⟨a,cap,rfl,fun k hk=>?_⟩
 obtain⟨g,off,rfl,aP⟩:=hc U;have h1:=fQ tx k hk;exact⟨g,off,rfl,aP _ _ h1.1,by rw[P0];exact aP _ _ h1.2⟩
theorem wE(l:List WrL)(x:Nat)(s:Bytes):aN l++(#[Value.int .i64 (x:Nat),ah s]:Array Value).toList=aN (l++[(x,s)]):=by
 rw[iF];rfl
theorem Ol(w:World)(tv:Value)(tx:List WrL)(i:Nat)(s:Bytes)(h:Sl w tv tx.length 2 (aN tx))(hr:l8 tx)(hl:tx.length≤1000)(qL:i≤1000000):
  Calls prog 213 #[tv,.agg #[.int .i64 (i:Nat),ah s]] w fun e w'=>∃v,e=.returned v∧w'.ownsRow w.heap.size 116 2 v (bM tx (i,s)).length (aN (bM tx (i,s)))∧Q w w':=by
 obtain⟨i0,hi,bY,bB,aW⟩:=info_parts nC;obtain⟨wa,dO⟩:∃wa,wa=w.alloc (.cells #[.int .i64 (i:Nat),ah s] 116):=⟨_,rfl⟩;have qa:Q w wa:=by rw[dO];exact Q.alloc _ _
 have bZ:Blk wa w.heap.size 116 #[.int .i64 (i:Nat),ah s]:=by rw[dO];exact Blk.new w _ _
 have b0:=bZ.cell 0 _ rfl;have b1:=bZ.cell 1 _ rfl;obtain⟨ta,tc,rfl,aP⟩:=(h.stays qa).mN;have kU:=fun (k:Nat) (hk:k<tx.length)=>X5 tx (i,s) hr k hk
 have aU:=fun (k:Nat) (hk:k<tx.length)=>FF tx (i,s) hr k hk
 have hlen:=sg tx (i,s);have hend:=vu tx (i,s);have h00:oh tx (i,s) 0=(false,[]):=by unfold oh;rw[TE,η κ]
 have HS:=Hd kU;have HN:=Hd aU;have HL:=Hd hlen;have HE:=Hd hend;have HC:=Hd aP;have QA:=Hd qa;have H00:=Hd h00;have B0:=Hd b0;have B1:=Hd b1;clear kU aU hlen hend aP qa h00 h hr bZ b0 b1;simp only at HS HN;generalize iQ:bM tx (i,s)=res at *;clear iQ;generalize Cz:oh tx (i,s)=wk at *;clear Cz;have yJ:∀(x:Nat) (y:Bytes),∀u∈(#[Value.int .i64 (x:Nat),ah y]:Array Value).toList,u.oneCell'=true:=fun x y u hu=>by simp at hu;rcases hu with rfl|rfl<;>rfl
 have Wm:=Hd yJ;clear yJ;go_enter func213,ntmps213;go_wp2_with fail;rw[←dO];clear dO;go_loopw [5,6,7] (fun ov dv iv wr=>∃k:Nat,iv=.int .i64 (k:Nat)∧k≤tx.length∧dv=.bool (wk k).1∧Hid (wr.ownsRow wa.heap.size 116 2 ov (wk k).2.length (aN (wk k).2))∧Hid (Q wa wr)) (fun _ _ iv _=>tx.length-(intOf iv).toNat)
 case atStart=>exact⟨0,rfl,MD _,by rw[H00.out],by rw[H00.out];exact Hd (World.ownsRow_nil _ _ _ _),Hd (Q.refl _)⟩
 case round =>
  obtain⟨k,rfl,hk,rfl,HO,HQ⟩:=hrel;have qz:=HL.out k;have z0:=aI HQ.out B0.out;have z1:=aI HQ.out B1.out;by_cases ay:k<tx.length
  ·have bq:(k:Int)<(tx.length:Int):=U
   have lT:(0:Int)≤(k:Int):=U;obtain⟨g,off,rfl,x0,x1⟩:=HC.out k ay;have y0:=aI HQ.out x0;have y1:=aI HQ.out x1;have aC:=HS.out k ay;have Jv:=HN.out k ay;have aX:=Hd aC;have TV:=Hd Jv;have HX0:=Hd x0;have HX1:=Hd x1;clear aC Jv x0 x1 HS HN;generalize tx[k]=tk at *;obtain⟨xi,xs⟩:=tk;simp only at y0 y1 aX TV HX0 HX1;generalize wk k=wkk at *;obtain⟨dn,ol⟩:=wkk;simp only at HO aX TV qz;have Bf:xi≤1000000∨1000000<xi:=U;cases dn with
   | true =>
    obtain⟨aU,wI⟩:=TV.out rfl;have M8:((xi:Int)==(i:Int))=false:=Γ.2 U;have aC:=aX.out;rw[Φ rfl] at aC;have qD:=Hd aC;have M8:((xi:Int) != (i:Int))=true:=by rw[bne,Γ.2 U];rfl
    have M8:((xi:Int) != (i:Int))=true:=by rw[bne,Γ.2 U];rfl
    have M8:((xi:Int) != (i:Int))=true:=by rw[bne,Γ.2 U];rfl
    clear aC aX TV aU wI;go_wp2_with fail;go_quiet (fail);obtain⟨n1,rfl⟩:∃n1,n1=nq:=⟨_,rfl⟩;go_wp2_with fail;go_quiet (fail);obtain⟨n2,rfl⟩:∃n2,n2=nq:=⟨_,rfl⟩;have hq:=HQ.out.trans (Q.drewN wr (n1+n2));have aF:=ownsRow_below HO.out (Q.drewN wr (n1+n2));go_wp2_with (at_builtin;go_must (refine bG _ ρ _ _ 66 ρ wa.heap.size 116 _ i0 (.agg #[.int .i64 0,ah []]) 2 24 underlying66 hi bY bB aW rfl Z Z _ _ _ ρ aF #[.int .i64 (xi:Nat),ah xs] ρ rfl (Wm.out _ _) (by first|omega|(simp only[Δ,Mu,OF];omega)) hq.size ?_))
    intro g7 cap7 w7 nZ uh Eh vP uL;have q7:Q wa w7:=bD hq aF uh (Ω _) hq.size;rw[wE] at nZ;clear aF uh Eh vP uL;have CZ:=Hd nZ;have lJ:=Hd q7;clear nZ q7 HO HQ;go_wp2_with fail;go_roundw;case rel=>exact⟨k+1,by go_num,U,by rw[qD.out],by rw[qD.out];simp only[Δ,Mu,OF,PF];exact CZ,lJ⟩
    case measure=>simp[intOf];omega
   | false =>
    have aC:=aX.out;rw[η Z] at aC;by_cases hge:i≤xi
    ·have Y4:(i:Int)≤(xi:Int):=U
     rw[Φ hge] at aC;by_cases jT:xi=i
     ·rw[Φ jT] at aC
      have M8:((xi:Int) != (i:Int))=false:=by rw[bne,NX.2 U];rfl
      have qD:=Hd aC;clear aC aX TV jT hge;go_wp2_with fail;go_quiet (fail);obtain⟨n1,rfl⟩:∃n1,n1=nq:=⟨_,rfl⟩;have hq:=HQ.out.trans (Q.drewN wr n1);have aF:=ownsRow_below HO.out (Q.drewN wr n1);go_wp2_with (at_builtin;go_must (refine bG _ ρ _ _ 66 ρ wa.heap.size 116 _ i0 (.agg #[.int .i64 0,ah []]) 2 24 underlying66 hi bY bB aW rfl Z Z _ _ _ ρ aF #[.int .i64 (i:Nat),ah s] ρ rfl (Wm.out _ _) (by first|omega|(simp only[Δ,Mu,OF];omega)) hq.size ?_))
      intro g7 cap7 w7 nZ uh Eh vP uL;have q7:Q wa w7:=bD hq aF uh (Ω _) hq.size;rw[wE] at nZ;clear aF uh Eh vP uL;have CZ:=Hd nZ;have lJ:=Hd q7;have z0:=aI lJ.out B0.out;have y0:=aI lJ.out HX0.out;clear nZ q7 HO HQ;go_wp2_with fail;go_quiet (fail);go_wp2_with fail;go_roundw;case rel=>exact⟨k+1,by go_num,U,by rw[qD.out],by rw[qD.out];simp only[Δ,Mu,OF,PF];exact Hd (ownsRow_below CZ.out (Q.drewN _ _)),Hd (lJ.out.trans (Q.drewN _ _))⟩
      case measure=>simp[intOf];omega
     ·rw[η jT] at aC
      have M8:((xi:Int) != (i:Int))=true:=by rw[bne,Γ.2 U];rfl
      have qD:=Hd aC;clear aC aX TV jT hge;go_wp2_with fail;go_quiet (fail);obtain⟨n1,rfl⟩:∃n1,n1=nq:=⟨_,rfl⟩;have hq:=HQ.out.trans (Q.drewN wr n1);have aF:=ownsRow_below HO.out (Q.drewN wr n1);go_wp2_with (at_builtin;go_must (refine bG _ ρ _ _ 66 ρ wa.heap.size 116 _ i0 (.agg #[.int .i64 0,ah []]) 2 24 underlying66 hi bY bB aW rfl Z Z _ _ _ ρ aF #[.int .i64 (i:Nat),ah s] ρ rfl (Wm.out _ _) (by first|omega|(simp only[Δ,Mu,OF];omega)) hq.size ?_))
      intro g7 cap7 w7 nZ uh Eh vP uL;have q7:Q wa w7:=bD hq aF uh (Ω _) hq.size;rw[wE] at nZ;clear aF uh Eh vP uL;have CZ:=Hd nZ;have lJ:=Hd q7;have z0:=aI lJ.out B0.out;have y0:=aI lJ.out HX0.out;have y1:=aI lJ.out HX1.out;clear nZ q7 HO HQ;go_wp2_with fail;go_quiet (fail);have hq:=lJ.out.trans (Q.drewN w7 nq);have aF:=ownsRow_below CZ.out (Q.drewN w7 nq);go_wp2_with (at_builtin;go_must (refine bG _ ρ _ _ 66 ρ wa.heap.size 116 _ i0 (.agg #[.int .i64 0,ah []]) 2 24 underlying66 hi bY bB aW rfl Z Z _ _ _ ρ aF #[.int .i64 (xi:Nat),ah xs] ρ rfl (Wm.out _ _) (by first|omega|(simp only[Δ,Mu,OF];omega)) hq.size ?_))
      intro g9 cap9 w9 hr9 ZO V6 ajb afM;have q9:Q wa w9:=bD hq aF ZO (Ω _) hq.size;rw[wE] at hr9;clear aF ZO V6 ajb afM;have HO9:=Hd hr9;have HQ9:=Hd q9;clear hr9 q9 CZ lJ;go_wp2_with fail;go_roundw;case rel=>exact⟨k+1,by go_num,U,by rw[qD.out],by rw[qD.out];simp only[Δ,Mu,OF,PF];exact HO9,HQ9⟩
      case measure=>simp[intOf];omega
    ·have Y4:¬(i:Int)≤(xi:Int):=U
     rw[η hge] at aC;have M8:((xi:Int) != (i:Int))=true:=by rw[bne,Γ.2 U];rfl
     have qD:=Hd aC;clear aC aX TV hge;go_wp2_with fail;go_quiet (fail);obtain⟨n1,rfl⟩:∃n1,n1=nq:=⟨_,rfl⟩;go_wp2_with fail;go_quiet (fail);obtain⟨n2,rfl⟩:∃n2,n2=nq:=⟨_,rfl⟩;have hq:=HQ.out.trans (Q.drewN wr (n1+n2));have aF:=ownsRow_below HO.out (Q.drewN wr (n1+n2));go_wp2_with (at_builtin;go_must (refine bG _ ρ _ _ 66 ρ wa.heap.size 116 _ i0 (.agg #[.int .i64 0,ah []]) 2 24 underlying66 hi bY bB aW rfl Z Z _ _ _ ρ aF #[.int .i64 (xi:Nat),ah xs] ρ rfl (Wm.out _ _) (by first|omega|(simp only[Δ,Mu,OF];omega)) hq.size ?_))
     intro g7 cap7 w7 nZ uh Eh vP uL;have q7:Q wa w7:=bD hq aF uh (Ω _) hq.size;rw[wE] at nZ;clear aF uh Eh vP uL;have CZ:=Hd nZ;have lJ:=Hd q7;clear nZ q7 HO HQ;go_wp2_with fail;go_roundw;case rel=>exact⟨k+1,by go_num,U,by rw[qD.out],by rw[qD.out];simp only[Δ,Mu,OF,PF];exact CZ,lJ⟩
     case measure=>simp[intOf];omega
  ·have bq:¬(k:Int)<(tx.length:Int):=U
   obtain rfl:k=tx.length:=U;have hend:=HE.out;generalize wk tx.length=wkk at *;obtain⟨dn,ol⟩:=wkk;simp only at HO hend qz;cases dn with
   | true =>
    rw[Φ rfl] at hend;have tV:=Hd hend;clear hend HE;go_wp2_with fail;go_ret;exact⟨_,rfl,by rw[tV.out];exact gT HO.out QA.out.size,QA.out.trans HQ.out⟩
   | false =>
    rw[η Z] at hend;have tV:=Hd hend;clear hend HE;have hq:=HQ.out;have aF:=HO.out;go_wp2_with (at_builtin;go_must (refine bG _ ρ _ _ 66 ρ wa.heap.size 116 _ i0 (.agg #[.int .i64 0,ah []]) 2 24 underlying66 hi bY bB aW rfl Z Z _ _ _ ρ aF #[.int .i64 (i:Nat),ah s] ρ rfl (Wm.out _ _) (by first|omega|(simp only[Δ,Mu,OF];omega)) hq.size ?_))
    intro g7 cap7 w7 nZ uh Eh vP uL;have q7:Q wa w7:=bD hq aF uh (Ω _) hq.size;rw[wE] at nZ;clear aF uh Eh vP uL;have CZ:=Hd nZ;have lJ:=Hd q7;clear nZ q7 HO HQ;go_wp2_with fail;go_ret;exact⟨_,rfl,by rw[tV.out];simp only[Δ,Mu,OF,PF];exact gT CZ.out QA.out.size,QA.out.trans lJ.out⟩
end
end Go.Proofs.YtonlbpljghohmaaGreatDoor
