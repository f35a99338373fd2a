/- Joined texts of one proof: what is needed of WCacF, WCacG, WCacH, WCacI, StM. -/
import Derived.Test.YthcpkgfieoneeaaGreatDoorJPWJrnB
import Derived.Shelf.SlSortCmp.Whole1
import Derived.Shelf.Lay
import Derived.Ground.SlsfProg
import Derived.Test.YthcpkgfieoneeaaGreatDoorJPSto
set_option linter.unusedSimpArgs false
set_option linter.unusedVariables false
set_option linter.unnecessarySimpa false
set_option maxRecDepth 100000
set_option maxHeartbeats 16000000
namespace Go.Proofs.YthcpkgfieoneeaaGreatDoor
section
open Go.Shelf Go.RowKit Go.Lib Go.Sort
open Go.RowKit
def Tryz.sortInt_ren : Go.Shelf.Ren := ⟨fun | 6 => 189 | 15 => 169 | 14 => 198 | 28 => 187 | 29 => 188 | 20 => 208 | 21 => 209 | 22 => 210 | 23 => 211 | 24 => 212 | 25 => 213 | 26 => 214 | 27 => 215 | 46 => 220 | 47 => 193 | 48 => 194 | 49 => 221 | 50 => 222 | 57 => 226 | n => n, fun | 22 => 135 | 24 => 3 | 25 => 25 | 3 => 3 | 39 => 166 | 0 => 0 | 53 => 159 | 55 => 106 | 4 => 4 | 46 => 213 | 45 => 212 | 50 => 96 | 5 => 5 | 9 => 9 | 66 => 222 | 70 => 226 | 76 => 236 | 77 => 237 | n => n, fun | n => n⟩
theorem Tryz.sortInt : Go.Proofs.SlLaysF.n6 Tryz.prog Tryz.sortInt_ren := {
  mixed := by kernel_rfl
  f6 := ⟨Tryz.f189.name, by decide, Tryz.func189.trans (congrArg some (by kernel_rfl))⟩
  f14 := ⟨Tryz.f198.name, by decide, Tryz.func198.trans (congrArg some (by kernel_rfl))⟩
  f15 := Tryz.func169.trans (congrArg some (by kernel_rfl))
  f20 := ⟨Tryz.f208.name, by decide, Tryz.func208.trans (congrArg some (by kernel_rfl))⟩
  f21 := ⟨Tryz.f209.name, by decide, Tryz.func209.trans (congrArg some (by kernel_rfl))⟩
  f22 := ⟨Tryz.f210.name, by decide, Tryz.func210.trans (congrArg some (by kernel_rfl))⟩
  f23 := ⟨Tryz.f211.name, by decide, Tryz.func211.trans (congrArg some (by kernel_rfl))⟩
  f24 := ⟨Tryz.f212.name, by decide, Tryz.func212.trans (congrArg some (by kernel_rfl))⟩
  f25 := ⟨Tryz.f213.name, by decide, Tryz.func213.trans (congrArg some (by kernel_rfl))⟩
  f26 := ⟨Tryz.f214.name, by decide, Tryz.func214.trans (congrArg some (by kernel_rfl))⟩
  f27 := ⟨Tryz.f215.name, by decide, Tryz.func215.trans (congrArg some (by kernel_rfl))⟩
  f28 := Tryz.func187.trans (congrArg some (by kernel_rfl))
  f29 := Tryz.func188.trans (congrArg some (by kernel_rfl))
  f46 := ⟨Tryz.f220.name, by decide, Tryz.func220.trans (congrArg some (by kernel_rfl))⟩
  f47 := Tryz.func193.trans (congrArg some (by kernel_rfl))
  f48 := Tryz.func194.trans (congrArg some (by kernel_rfl))
  f49 := ⟨Tryz.f221.name, by decide, Tryz.func221.trans (congrArg some (by kernel_rfl))⟩
  f50 := ⟨Tryz.f222.name, by decide, Tryz.func222.trans (congrArg some (by kernel_rfl))⟩
  f57 := ⟨Tryz.f226.name, by decide, Tryz.func226.trans (congrArg some (by kernel_rfl))⟩
  t0 := Tryz.underlying0
  a0 := Tryz.isAgg0
  z0 := Tryz.sizeOf0
  v0 := Tryz.zeroValue0
  t3 := Tryz.underlying3
  a3 := Tryz.isAgg3
  z3 := Tryz.sizeOf3
  v3 := Tryz.zeroValue3
  t4 := Tryz.underlying4
  a4 := Tryz.isAgg4
  z4 := Tryz.sizeOf4
  v4 := Tryz.zeroValue4
  t5 := Tryz.underlying5
  a5 := Tryz.isAgg5
  z5 := Tryz.sizeOf5
  v5 := Tryz.zeroValue5
  t9 := Tryz.underlying9
  a9 := Tryz.isAgg9
  z9 := Tryz.sizeOf9
  v9 := Tryz.zeroValue9
  t22 := Tryz.underlying135
  a22 := Tryz.isAgg135
  z22 := Tryz.sizeOf135
  v22 := Tryz.zeroValue135
  a24 := Tryz.isAgg3
  z24 := Tryz.sizeOf3
  t25 := Tryz.underlying25
  a25 := Tryz.isAgg25
  z25 := Tryz.sizeOf25
  v25 := Tryz.zeroValue25
  t39 := Tryz.underlying166
  a39 := Tryz.isAgg166
  z39 := Tryz.sizeOf166
  v39 := Tryz.zeroValue166
  t45 := Tryz.underlying212
  a45 := Tryz.isAgg212
  z45 := Tryz.sizeOf212
  v45 := Tryz.zeroValue212
  t46 := Tryz.underlying213
  a46 := Tryz.isAgg213
  z46 := Tryz.sizeOf213
  v46 := Tryz.zeroValue213
  t50 := Tryz.underlying96
  a50 := Tryz.isAgg96
  z50 := Tryz.sizeOf96
  v50 := Tryz.zeroValue96
  t53 := Tryz.underlying159
  a53 := Tryz.isAgg159
  z53 := Tryz.sizeOf159
  v53 := Tryz.zeroValue159
  t55 := Tryz.underlying106
  a55 := Tryz.isAgg106
  z55 := Tryz.sizeOf106
  v55 := Tryz.zeroValue106
  t66 := Tryz.underlying222
  a66 := Tryz.isAgg222
  z66 := Tryz.sizeOf222
  v66 := Tryz.zeroValue222
  t70 := Tryz.underlying226
  a70 := Tryz.isAgg226
  z70 := Tryz.sizeOf226
  v70 := Tryz.zeroValue226
  t76 := Tryz.underlying236
  a76 := Tryz.isAgg236
  z76 := Tryz.sizeOf236
  v76 := Tryz.zeroValue236
  t77 := Tryz.underlying237
  a77 := Tryz.isAgg237
  z77 := Tryz.sizeOf237
  v77 := Tryz.zeroValue237 }
theorem Collect_any(B mb:Nat)(m:List (Nat×Value))(w:World)(hb:Boxed w B 140 (.map (some mb)))(hm:MapI w mb m)(hlen:m.length≤1000000):
  Calls Tryz.prog 142 #[.func (.func 144) #[] #[.pointer (some ⟨B,0,none⟩)]] w fun e w' =>
   ∃(v:Value) (ks:List Nat),e=.returned v∧ks.Perm (m.map (·.1))∧w'.ownsRow w.heap.size 3 1 v ks.length (ks.map keyI)∧Q w w':=by
 have ha:=AppendSeq_any B mb m w hb hm hlen
 have HA:=Lib.hid ha
 clear ha hb hm
 go_enter Tryz.func142,Tryz.ntmps142
 go_wp2_with fail
 refine HA.out.mono ?_
 rintro e w1 ⟨v,ks,rfl,hp,ho,q⟩
 have HP:=Lib.hid hp;have HO:=Lib.hid ho;have HQ:=Lib.hid q
 clear hp ho q
 go_wp2_with fail
 go_ret
 exact⟨_,ks,rfl,HP.out,HO.out,HQ.out⟩
theorem sort_grown1{α:Type}[Inhabited α](enc:α→Value)(w:World)(blk off n:Nat)(d:Array α)(os:Array Obj):w.grownBy (sortWorld enc w blk off n d os) (some blk):=by
 have hs:(Go.Sort.putRow enc (Go.Sort.ahead w n) blk off d).heap.size=w.heap.size:=by rw[Go.Sort.size_putRow];rfl
 refine⟨rfl,rfl,rfl,?_,fun k hk hne=>?_⟩
 ·unfold sortWorld
  rw[Go.Sort.size_grow]
  omega
 ·have hb:blk≠k:=fun e=>hne (by rw[e])
  show((Go.Sort.putRow enc (Go.Sort.ahead w n) blk off d).heap++os)[k]?=w.heap[k]?
  rw[Array.getElem?_append_left (by omega)]
  show(w.heap.modify blk _)[k]?=w.heap[k]?
  rw[Array.getElem?_modify,if_neg hb]
theorem BlocksCmp_any(w:World)(F:Nat→Prop)(bc cb p most clock:Nat)(ms:Int)(mb:Nat)(m:KeptLs)(h:CacG w F cb p most clock ms mb m)(hk:(m.map (·.1)).Nodup)(hb:w.cell? ⟨bc,0,none⟩=some (ptrV cb))(x y:Nat×KeptL)(hx:x∈m)(hy:y∈m)
  (hu:∀z∈m,z.2.used≤2000000000000000000) :
  Calls Tryz.prog 172 #[keyI x.1,keyI y.1,.pointer (some ⟨bc,0,none⟩)] w fun e w'=>e=.returned (.int .i64 ((y.2.used:Int)-(x.2.used:Int)))∧∃q,w'=w.drewN q:=by
 have c4:=h.box.cell 4 (.map (some mb)) rfl
 have gx:=getI_of_mem hk (k:=x.1) (v:=x.2) hx
 have gy:=getI_of_mem hk (k:=y.1) (v:=y.2) hy
 have ux:=hu x hx;have uy:=hu y hy
 have dx:=(h.kept x hx).1.cell 3 (.int .i64 (x.2.used:Nat)) rfl
 have dy:=(h.kept y hy).1.cell 3 (.int .i64 (y.2.used:Nat)) rfl
 have lx:=run_lookup_int (P:=Tryz.prog) (w:=w.drew) (h.keep (Q.drew w)).map 140 3 141 Tryz.underlying140 Tryz.underlying3 (.pointer none) (run_mapElem _) x.1 false
 have ly:=run_lookup_int (P:=Tryz.prog) (w:=w.drew) (h.keep (Q.drew w)).map 140 3 141 Tryz.underlying140 Tryz.underlying3 (.pointer none) (run_mapElem _) y.1 false
 simp only[Bool.false_eq_true,if_false] at lx ly
 rw[h.lookHit gx] at lx
 rw[h.lookHit gy] at ly
 clear h gx gy hu hk hx hy
 obtain⟨x1,xp,xd,xb,xu⟩:=x
 obtain⟨y1,yp,yd,yb,yu⟩:=y
 simp only at *
 go_enter Tryz.func172,Tryz.ntmps172
 go_wp2_with fail
 go_region
 all_goals
  go_wp2_with fail
  go_ret
  exact⟨rfl,1,rfl⟩
abbrev KEnt(m:KeptLs):={ x:Nat×KeptL // x∈m }
def kentK{m:KeptLs}(x:KEnt m):Value:=keyI x.1.1
def kentC{m:KeptLs}(x y:KEnt m):Int:=(y.1.2.used:Int)-(x.1.2.used:Int)
theorem kent_swo(m:KeptLs):Go.Sort.SWO (ltOf (kentC (m:=m))):=by
 refine⟨fun x=>by simp[ltOf,kentC],fun x y z h1 h2=>?_,fun x y z h1 h2=>?_⟩
 ·unfold ltOf kentC at *
  have h1:=of_decide_eq_true h1
  have h2:=of_decide_eq_true h2
  exact decide_eq_true (by omega)
 ·unfold ltOf kentC at *
  have h1:=of_decide_eq_false h1
  have h2:=of_decide_eq_false h2
  exact decide_eq_false (by omega)
theorem row_cell{w:World}{g n cap size:Nat}{xs:List Value}(h:Sl w (.slice (some ⟨g,0,none⟩) n cap) n size xs)(hn:0<n)(j:Nat)(u:Value)(hj:xs[j]?=some u):w.cell? ⟨g,j,none⟩=some u:=by
 obtain⟨_,a,c,hv,hc1⟩:=h
 obtain⟨b2,off,rfl,hc2⟩:=hc1 hn
 have h2:=hc2 j u hj
 simp only[Value.slice.injEq,Option.some.injEq,Addr.mk.injEq] at hv
 obtain⟨⟨rfl,rfl,_⟩,_⟩:=hv
 rwa [Nat.zero_add] at h2
def kents(m:KeptLs):(ks:List Nat)→(∀k∈ks,k∈m.map (·.1))→List (KEnt m)
 | [],_=>[]
 | k::ks,h=>⟨(k,(getI k m).get (by
   cases hg:getI k m with
   | some v=>rfl
   | none =>
    obtain⟨x,hx,e⟩:=List.mem_map.1 (h k (List.mem_cons_self ..))
    exact absurd e (getI_none.1 hg x hx))),getI_mem (Option.some_get _).symm⟩::kents m ks (fun j hj=>h j (List.mem_cons_of_mem _ hj))
theorem kents_keys(m:KeptLs):∀(ks:List Nat) (h:∀k∈ks,k∈m.map (·.1)),(kents m ks h).map (fun x=>x.1.1)=ks
 | [],_=>rfl
 | k::ks,h=>by rw[kents,List.map_cons,kents_keys m ks]
theorem SortKeys_any(w:World)(F:Nat→Prop)(bc cb p most clock:Nat)(ms:Int)(mb:Nat)(m:KeptLs)(base:Nat)(v:Value)(ks:List Nat)(h:CacG w F cb p most clock ms mb m)(hk:(m.map (·.1)).Nodup)(hb:Boxed w bc 83 (ptrV cb))(hu:∀z∈m,z.2.used≤2000000000000000000)
  (ho:w.ownsRow base 3 1 v ks.length (ks.map keyI)) (hks:∀k∈ks,k∈m.map (·.1)) (hn:0<ks.length) (hlen:ks.length≤1000000) (hF:∀k,F k→k<base) (hbc:bc<base) :
  Calls Tryz.prog 189 #[v,.func (.func 172) #[] #[.pointer (some ⟨bc,0,none⟩)]] w fun e w'=>e=.returned (.tuple #[])∧∃(g cap:Nat) (ks':List Nat),v=.slice (some ⟨g,0,none⟩) ks.length cap∧base≤g∧ks'.Perm ks∧(∀i (hi:i<ks'.length),w'.cell? ⟨g,i,none⟩=some (keyI ks'[i]))∧w.grownBy w' (some g)∧g<w'.heap.size:=by
 have hne:Nonempty (KEnt m):=by
  obtain⟨x,hx,_⟩:=List.mem_map.1 (hks ks[0] (List.getElem_mem hn))
  exact⟨⟨x,hx⟩⟩
 haveI:Inhabited (KEnt m):=⟨Classical.choice hne⟩
 rcases ho.2 with ⟨_,hz⟩|⟨g,cap,cur,rfl,hbg,hg,hcap,_⟩
 ·omega
 ·have hsl:=Sl.of_owns ho
  obtain⟨d,hd⟩:∃d:Array (KEnt m),d=(kents m ks hks).toArray:=⟨_,rfl⟩
  have hds:d.size=ks.length:=by
   have:=congrArg List.length (kents_keys m ks hks)
   rw[List.length_map] at this
   rw[hd];simpa using this
  have hdk:∀j (hj:j<d.size),(d[j]!).1.1=ks[j]'(by rw[←hds];exact hj):=fun j hj=>by
   have e:=kents_keys m ks hks
   have hj':j<(kents m ks hks).length:=by rw[hd] at hj;simpa using hj
   rw[getElem!_pos d j hj]
   subst hd
   have:=List.getElem_of_eq e (by simpa using hj':j<((kents m ks hks).map (fun x=>x.1.1)).length)
   simpa using this
  have hH:Go.Sort.Holds kentK w g 0 d:=fun j hj=>by
   have hj':j<ks.length:=by rw[←hds];exact hj
   have hc:=row_cell hsl hn j (keyI ks[j]) (by simp[hj'])
   rw[Nat.zero_add]
   refine⟨by rw[hc];unfold kentK;rw[hdk j hj],?_⟩
   have:Blk w g 3 cur:=hg
   exact this.frozen j
  have hcmp:CmpLays1 Tryz.prog 172 #[.pointer (some ⟨bc,0,none⟩)] (kentK (m:=m)) (kentC (m:=m)) g 0 d.size w:=CmpReads.lays (fun mm os dk hdk x y=>by
   have hgr:=sort_grown1 (kentK (m:=m)) w g 0 mm dk os
   have ht:Turn (fun k=>k=g) w (sortWorld (kentK (m:=m)) w g 0 mm dk os):=CacG.turn_of_map hgr
   have h2:=h.beside ht (fun k hk e=>by have:=hF k hk;omega)
   have hne2:¬bc=g:=by omega
   have hb2:(sortWorld (kentK (m:=m)) w g 0 mm dk os).cell? ⟨bc,0,none⟩=some (ptrV cb):=ht.cell hb.cell hne2
   exact BlocksCmp_any _ F bc cb p most clock ms mb m h2 hk hb2 x.1 y.1 x.2 y.2 hu)
  have hs:=Any.slices_SortFunc Tryz.sortInt (kentK (m:=m)) (fun _=>rfl) (kentC (m:=m)) (kent_swo m) 172 #[.pointer (some ⟨bc,0,none⟩)] g 0 cap d w (enters_of Tryz.func172 (by kernel_rfl) rfl) hcmp hH (lt_of_get hg) (by omega)
  rw[hds] at hs
  change Calls Tryz.prog 189 _ _ _ at hs
  refine hs.mono ?_
  rintro e w' ⟨rfl,d',n,os,hp,_,rfl⟩
  have hd's:d'.size=d.size:=hp.1
  refine⟨rfl,g,cap,d'.toList.map (fun x=>x.1.1),rfl,hbg,?_,fun i hi=>?_,sort_grown1 (kentK (m:=m)) w g 0 n d' os,?_⟩
  ·have h3:=hp.2.2
   have e1:(d'.extract 0 ks.length).toList=d'.toList:=by rw[←hds,←hd's];simp
   have e2:(d.extract 0 ks.length).toList=d.toList:=by rw[←hds];simp
   rw[e1,e2] at h3
   have h4:=h3.map (fun x=>x.1.1)
   have h5:d.toList.map (fun x=>x.1.1)=ks:=by rw[hd];exact kents_keys m ks hks
   rw[h5] at h4;exact h4
  ·have hi':i<d'.size:=by simpa using hi
   have hh:=(holds_sortWorld kentK w g 0 n d d' os (lt_of_get hg) hH hd's i hi').1
   rw[Nat.zero_add] at hh
   rw[hh,getElem!_pos d' i hi']
   simp[kentK]
  ·have:=(sort_grown1 (kentK (m:=m)) w g 0 n d' os).size
   exact Nat.lt_of_lt_of_le (lt_of_get hg) this
theorem SortedFunc_any(w:World)(F:Nat→Prop)(bc B cb p most clock:Nat)(ms:Int)(mb:Nat)(m:KeptLs)(h:CacG w F cb p most clock ms mb m)(hk:(m.map (·.1)).Nodup)(hb:Boxed w bc 83 (ptrV cb))(hB:Boxed w B 140 (.map (some mb)))(hu:∀z∈m,z.2.used≤2000000000000000000)(hn:0<m.length)(hlen:m.length≤1000000):
  Calls Tryz.prog 171 #[.func (.func 144) #[] #[.pointer (some ⟨B,0,none⟩)],.func (.func 172) #[] #[.pointer (some ⟨bc,0,none⟩)]] w fun e w' =>
   ∃(g cap:Nat) (ks:List Nat),e=.returned (.slice (some ⟨g,0,none⟩) ks.length cap)∧w.heap.size≤g∧ks.Perm (m.map (·.1))∧(∀i (hi:i<ks.length),w'.cell? ⟨g,i,none⟩=some (keyI ks[i]))∧Q w w'∧g<w'.heap.size:=by
 have hc:=Collect_any B mb (mapOf m) w hB h.map (by rw[h.len];exact hlen)
 have hmk:(mapOf m).map (·.1)=m.map (·.1):=by simp[mapOf]
 rw[hmk] at hc
 have HC:=Lib.hid hc;have HH:=Lib.hid h;have HB:=Lib.hid hb;have HK:=Lib.hid hk;have HU:=Lib.hid hu
 have hblt:=lt_of_get hb
 clear hc hmk h hb hB hk hu
 go_enter Tryz.func171,Tryz.ntmps171
 go_wp2_with fail
 refine HC.out.mono ?_
 rintro e w1 ⟨v,ks,rfl,hp,ho,q⟩
 have hkl:ks.length=m.length:=by rw[hp.length_eq,List.length_map]
 have cs:=SortKeys_any w1 F bc cb p most clock ms mb m w.heap.size v ks (HH.out.keep q) HK.out ((q.block _ hblt).trans HB.out) HU.out ho (fun k hk=>hp.mem_iff.1 hk) (by omega) (by omega) (fun k hk=>HH.out.lt k hk) hblt
 have HP:=Lib.hid hp;have HQ:=Lib.hid q;have CS:=Lib.hid cs
 clear hp ho q cs hkl
 go_wp2_with fail
 refine CS.out.mono ?_
 rintro e w2 ⟨rfl,g,cap,ks',rfl,hbg,hp2,hce,hgr,hlt⟩
 have hl2:ks'.length=ks.length:=hp2.length_eq
 have hq2:Q w w2:=Below.trans HQ.out (show Below w.heap.size w1 w2 from⟨hgr.os,hgr.tape,hgr.output,hgr.size,fun i hi=>hgr.block i (Nat.lt_of_lt_of_le hi HQ.out.size) (fun e=>by injection e with e;omega)⟩)
 have HP2:=Lib.hid hp2;have HCE:=Lib.hid hce;have HQ2:=Lib.hid hq2;have HL2:=Lib.hid hl2
 clear hp2 hce hgr hq2 hl2
 go_wp2_with fail
 go_ret
 exact⟨g,cap,ks',by rw[HL2.out];rfl,hbg,HP2.out.trans HP.out,HCE.out,HQ2.out,hlt⟩
theorem Blocks_c(w:World)(F:Nat→Prop)(cb p most clock:Nat)(ms:Int)(mb:Nat)(m:KeptLs)(h:CacG w F cb p most clock ms mb m)(hk:(m.map (·.1)).Nodup)(hu:∀z∈m,z.2.used≤2000000000000000000)(hn:0<m.length)(hlen:m.length≤1000000):
  Calls Tryz.prog 150 #[ptrV cb] w fun e w' =>
   ∃(g cap:Nat) (ks:List Nat),e=.returned (.slice (some ⟨g,0,none⟩) ks.length cap)∧w.heap.size≤g∧ks.Perm (m.map (·.1))∧(∀i (hi:i<ks.length),w'.cell? ⟨g,i,none⟩=some (keyI ks[i]))∧Q w w'∧g<w'.heap.size:=by
 have hq1:Q w (w.alloc (.cells #[ptrV cb] 83)):=Q.alloc _ _
 have hb1:Boxed (w.alloc (.cells #[ptrV cb] 83)) w.heap.size 83 (ptrV cb):=Boxed.new w _ _
 have c4:=(h.keep hq1).box.cell 4 (.map (some mb)) rfl
 have c0:=hb1.cell
 have H1:=Lib.hid (h.keep hq1);have HB1:=Lib.hid hb1;have HK:=Lib.hid hk;have HU:=Lib.hid hu
 have HQ1:=Lib.hid hq1
 clear h hb1 hk hu
 go_enter Tryz.func150,Tryz.ntmps150
 go_wp2_with fail
 generalize hwa:w.alloc (.cells #[ptrV cb] 83)=wa at *
 clear hwa
 refine(Keys_any mb wa).mono ?_
 rintro e w2 ⟨rfl,hw2⟩
 have hq2:Q wa w2:=by rw[←hw2];exact Q.alloc _ _
 have hB2:Boxed w2 wa.heap.size 140 (.map (some mb)):=by rw[←hw2];exact Boxed.new wa _ _
 have hsf:=SortedFunc_any w2 F w.heap.size wa.heap.size cb p most clock ms mb m (H1.out.keep hq2) HK.out ((hq2.block _ (lt_of_get HB1.out)).trans HB1.out) hB2 HU.out hn hlen
 have HSF:=Lib.hid hsf;have HQ2:=Lib.hid hq2
 clear hsf c4 c0 hw2 hq2 hB2
 go_wp2_with fail
 refine HSF.out.mono ?_
 rintro e w3 ⟨g,cap,ks,rfl,hbg,hp,hce,q,hlt⟩
 have HP:=Lib.hid hp;have HCE:=Lib.hid hce;have hq3:Q w w3:=HQ1.out.trans (HQ2.out.trans q)
 have HQ3:=Lib.hid hq3;have hg2:w.heap.size≤g:=Nat.le_trans (Nat.le_trans HQ1.out.size HQ2.out.size) hbg
 clear hp hce q hq3
 go_wp2_with fail
 go_ret
 exact⟨g,cap,ks,rfl,hg2,HP.out,HCE.out,HQ3.out,hlt⟩
end
section
open Go.RowKit
attribute [local go_sem] Oper.semAt_some
theorem Backward_any(g n cap:Nat)(w:World):
  Calls Tryz.prog 151 #[.slice (some ⟨g,0,none⟩) n cap] w fun e w'=>e=.returned (.func (.func 173) #[] #[.pointer (some ⟨w.heap.size,0,none⟩)])∧w.alloc (.cells #[.slice (some ⟨g,0,none⟩) n cap] 135)=w':=by
 go_enter Tryz.func151,Tryz.ntmps151
 go_wp2_with fail
 go_ret
 exact⟨rfl,rfl⟩
abbrev encBw(x:Nat×Nat):Array Value:=#[.int .i64 (x.1:Nat),keyI x.2]
def backL(ks:List Nat):List (Nat×Nat):=(List.range ks.length).reverse.map fun i=>(i,ks.getD i 0)
theorem backL_len(ks:List Nat):(backL ks).length=ks.length:=by simp[backL]
theorem backL_at(ks:List Nat)(k:Nat)(h:k<ks.length):(backL ks)[k]'(by rw[backL_len];exact h)=(ks.length-1-k,ks.getD (ks.length-1-k) 0):=by
 simp[backL]
def backStep(ks:List Nat)(k:Nat)(_:World)(args:Array Value)(k2:Nat):Prop:=∃x,(backL ks)[k]?=some x∧args=encBw x∧k2=k+1
theorem Backward_seq(B n₀ g cap:Nat)(ks:List Nat)(W:World)(hb:Boxed W B 135 (.slice (some ⟨g,0,none⟩) ks.length cap))(hc:∀i (hi:i<ks.length),W.cell? ⟨g,i,none⟩=some (keyI ks[i]))(hgl:g<W.heap.size)(hn:n₀≤W.heap.size)(hlen:ks.length≤1000000):
  SeqG Tryz.prog 173 #[.pointer (some ⟨B,0,none⟩)] (backStep ks) (fun k=>k=ks.length) (fun _=>False) (fun k=>k=B∨k=g) n₀ 0 W:=by
 intro n l J Jx hJ hJx hY h0
 refine callsIn_of_wp Tryz.func173 rfl trivial ?_ rfl
 simp only[Tryz.ntmps173,List.size_toArray,List.length_cons,List.length_nil,Nat.reduceAdd,Nat.reduceSub,Array.replicate_succ,Array.replicate_zero,List.push_toArray,List.append_toArray,List.nil_append,List.cons_append]
 have c0:=hb.cell
 have hw1:IntKind.i64.wrap ((ks.length:Int)-1)=(ks.length:Int)-1:=IntWalk.i64_in _ (by omega)
 have H0:=Lib.hid h0;have HBX:=Lib.hid hb;have HYH:=Lib.hid hY;have HC:=Lib.hid hc
 have hBlt:=lt_of_get hb
 clear h0 hb hY hc
 gi_wp2
 gi_loopw [3] (fun v wr=>∃(r:Nat) (x:Int),v=.int .i64 x∧x=(r:Int)-1∧r≤ks.length∧Hid (Boxed wr B 135 (.slice (some ⟨g,0,none⟩) ks.length cap))∧Hid (wr.heap[g]?=W.heap[g]?)∧Hid (J (ks.length-r) wr)∧Hid (W.heap.size≤wr.heap.size)) (fun v _=>(intOf v+1).toNat)
 case atStart=>exact⟨ks.length,_,rfl,rfl,Nat.le_refl _,HBX,Lib.hid rfl,by rw[Nat.sub_self];exact H0,Lib.hid (Nat.le_refl _)⟩
 case round =>
  obtain⟨r,x,rfl,hx,hr,HB,HG,HJ,HZ⟩:=hrel
  have d0:=HB.out.cell
  cases r with
  | zero =>
   obtain rfl:x = -1:=by omega
   clear hx
   gi_wp2
   go_end0
   exact⟨⟨_,rfl⟩,.inl ⟨_,rfl,HJ.out⟩⟩
  | succ j =>
   obtain rfl:x=(j:Nat):=by omega
   clear hx
   have hjl:j<ks.length:=by omega
   have hj0:(0:Int)≤(j:Int):=by omega
   have x1:wr.cell? ⟨g,j,none⟩=some (keyI ks[j]):=by rw[←HC.out j hjl];exact World.cell?_of_block HG.out
   have hkk:ks.length-(j+1)<(backL ks).length:=by rw[backL_len];omega
   have hat:(backL ks)[ks.length-(j+1)]=(j,ks[j]):=by
    rw[backL_at ks _ (by omega),show ks.length-1-(ks.length-(j+1))=j by omega,List.getD_eq_getElem?_getD,List.getElem?_eq_getElem hjl];rfl
   have hglt:g<wr.heap.size:=Nat.lt_of_lt_of_le hgl HZ.out
   generalize hkj:ks[j]=kj at *
   clear hkj
   obtain⟨fn,tmps,assign,body,hy,hR⟩:=HYH.out (ks.length-(j+1)) (ks.length-(j+1)+1) wr (encBw (j,kj)) HJ.out ⟨_,by rw[List.getElem?_eq_getElem hkk,hat],rfl,rfl⟩ (fun b h=>by rcases h with rfl|rfl;exact lt_of_get HB.out;exact hglt)
   dsimp only[encBw] at hy
   have HYY:=Lib.hid hR;clear hR hat
   have hnx:ks.length-(j+1)+1=ks.length-j:=by omega
   rw[hnx] at HYY
   have HNX:=Lib.hid hnx
   clear hnx hkk
   gi_wp2
   refine⟨fun h=>(by cases h),(HYY.out _).mono ?_⟩
   rintro e W3 (⟨rfl,hJ3,hk3⟩|⟨rfl,hJx3⟩)
   ·have hb3:Boxed W3 B 135 (.slice (some ⟨g,0,none⟩) ks.length cap):=(hk3.own B (.inl rfl) (lt_of_get HB.out)).trans HB.out
    have hg3:W3.heap[g]?=W.heap[g]?:=(hk3.own g (.inr rfl) hglt).trans HG.out
    have HB3:=Lib.hid hb3;have HG3:=Lib.hid hg3;have HJ3:=Lib.hid hJ3;have HZ3:Hid (W.heap.size≤W3.heap.size):=Lib.hid (Nat.le_trans HZ.out hk3.below.size)
    clear hb3 hg3 hJ3 hk3
    gi_wp2
    go_roundw
    case rel=>exact⟨j,_,rfl,rfl,by omega,HB3,HG3,HJ3,HZ3⟩
    case measure=>simp[intOf]
   ·have HJX:=Lib.hid hJx3;clear hJx3
    gi_wp2
    refine bodyPost_ret (results_none rfl _ _ _) rfl ?_
    exact⟨⟨_,rfl⟩,.inr ⟨_,HJX.out⟩⟩
theorem wpIn_act2{F:Fence}{n:Nat}{P:Program}{c:Code}{Qx:Exit→Act→World→Prop}{a:Act}{w:World}(h:∀A0,A0=a→c.wpIn F n P Qx A0 w):c.wpIn F n P Qx a w:=h a rfl
theorem CacG.itk{A B:World}{F:Nat→Prop}{cb p most clock:Nat}{ms:Int}{mb lo:Nat}{m:KeptLs}(h:CacG A F cb p most clock ms mb m)(hi:Itk (fun _=>False) lo A B)(hl:∀k,F k→k<lo):CacG B F cb p most clock ms mb m :=
 h.beside (G:=fun k=>lo≤k) ⟨hi.os,hi.tape,hi.output,hi.size,fun k h1 h2=>hi.low k (by omega) h1 (fun h=>h)⟩ (fun k hk=>by have:=hl k hk;omega)
theorem backL_mem{ks:List Nat}{k:Nat}(h:k∈ks):∃i x,(backL ks)[i]?=some x∧x.2=k∧i<ks.length:=by
 obtain⟨j,hj,rfl⟩:=List.getElem_of_mem h
 refine⟨ks.length-1-j,_,List.getElem?_eq_getElem (by rw[backL_len];omega),?_,by omega⟩
 rw[backL_at ks _ (by omega),show ks.length-1-(ks.length-1-j)=j by omega,List.getD_eq_getElem?_getD,List.getElem?_eq_getElem hj];rfl
theorem backL_key{ks:List Nat}{i:Nat}{x:Nat×Nat}(h:(backL ks)[i]?=some x):x.2∈ks∧x.1<ks.length:=by
 obtain⟨hi,he⟩:=List.getElem?_eq_some_iff.1 h
 rw[backL_len] at hi
 rw[backL_at ks i hi] at he
 subst he
 refine⟨?_,by simp only;omega⟩
 simp only[List.getD_eq_getElem?_getD]
 rw[List.getElem?_eq_getElem (by omega)]
 exact List.getElem_mem _
theorem results_cell1{P:Program}{fn:Func}{p:Tmp}{ty:TypeId}(h:fn.results=#[.cell p ty])(tmps:Array Value)(w:World)(a:Addr)(v:Value)(hp:tmps.getD p undef=.pointer (some a))(hl:(loadVar ty a).run P w=.ok v w):
  (results fn tmps).run P w=.ok v w:=by
 have hp':tmps[p]?.getD undef=.pointer (some a):=by simpa using hp
 simp[results,h,hp',asAddr,hl]
theorem load_errno(w:World)(b:Nat)(x:Int)(h:w.cell? ⟨b,0,none⟩=some (.int .i64 x)):(loadVar 30 ⟨b,0,none⟩).run Tryz.prog w=.ok (.int .i64 x) w:=by
 have hi:∀W,(isAgg 30).run Tryz.prog W=.ok false W:=fun W=>by kernel_rfl
 simp[loadVar,hi,h,Result.andThen,go_sem]
theorem Room_any(w:World)(F:Nat→Prop)(cb p n most clock:Nat)(ms:Int)(mb:Nat)(m:KeptLs)(tx:List WrL)(g:Nat→Bytes)(h:CacG w F cb p most clock ms mb m)(ho:CacOk n most clock tx g m)(hc:clock≤1000000000000000000):
  RoomC w F n most clock tx g cb p ms mb m:=by
 unfold RoomC
 obtain⟨wa,hwa⟩:∃wa,wa=(w.alloc (.cells #[ptrV cb] 83)).alloc (.cells #[.int .i64 0] 30):=⟨_,rfl⟩
 have hq:Q w wa:=by rw[hwa];exact(Q.alloc _ _).trans (Q.alloc _ _)
 have hsz:wa.heap.size=w.heap.size+2:=by rw[hwa];simp
 have hb0:Boxed wa w.heap.size 83 (ptrV cb):=by rw[hwa];exact(Boxed.new w _ _).alloc _
 have hb1:Boxed wa (w.heap.size+1) 30 (.int .i64 0):=by
  rw[hwa]
  have:=Boxed.new (w.alloc (.cells #[ptrV cb] 83)) 30 (.int .i64 0)
  rwa [World.size_alloc] at this
 have hh:=h.keep hq
 have d0:=hb0.cell
 have d1:=hb1.cell;have e1:=hb1.frozen
 have c1:=hh.box.cell 1 (.int .i64 (most:Nat)) rfl
 have c4:=hh.box.cell 4 (.map (some mb)) rfl
 have hln:=run_len_int (P:=Tryz.prog) (hh.keep (Q.drew _)).map 140 3 141 3 Tryz.underlying140
 rw[h.len] at hln
 have hml:=ho.len;have hcap:=ho.cap
 have HH:=Lib.hid hh;have HO:=Lib.hid ho;have HQ:=Lib.hid hq;have HB0:=Lib.hid hb0;have HB1:=Lib.hid hb1;have HSZ:=Lib.hid hsz;have H:=Lib.hid h
 clear hh ho hq hb0 hb1 hsz h
 refine(callsIn_wide (n:=0)).1 ?_
 refine callsIn_of_wp_marks Tryz.func113 rfl trivial ?_ rfl
 simp only[Tryz.ntmps113,List.size_toArray,List.length_cons,List.length_nil,Nat.reduceAdd,Nat.reduceSub,Array.replicate_succ,Array.replicate_zero,List.push_toArray,List.append_toArray,List.nil_append,List.cons_append]
 refine wpIn_wide.2 ?_
 by_cases hl:m.length<most
 ·have hli:(m.length:Int)<(most:Int):=by omega
  go_wp2_with fail
  rw[←hwa]
  clear hwa
  go_region
  all_goals
   go_wp2_with fail
   have hb2:=HB1.out.set (.int .i64 0)
   have hqe:Q w ((wa.setCell ⟨w.heap.size+1,0,none⟩ (.int .i64 0)).drew):=Qs.dr (Qs.st HQ.out _ _ (by simp))
   refine⟨.int .i64 0,results_cell1 rfl _ _ ⟨w.heap.size+1,0,none⟩ _ rfl (load_errno _ _ 0 hb2.cell),rfl,Turn.of_q hqe,m,H.out.keep hqe,HO.out,hl,fun _ h=>h⟩
 ·have hli:¬(m.length:Int)<(most:Int):=by omega
  have hmm:0<m.length:=by omega
  have cbl:=fun (W:World) (hq:Q wa W)=>Blocks_c W F cb p most clock ms mb m (HH.out.keep hq) HO.out.keys (fun z hz=>by have:=HO.out.used z hz;omega) hmm (by omega)
  have CBL:=Lib.hid cbl
  clear cbl
  go_wp2_with fail
  rw[←hwa]
  clear hwa
  go_region
  all_goals
   go_wp2_with fail
   refine(CBL.out _ (Q.drew _)).mono ?_
   rintro e w1 ⟨gb,cap,ks,rfl,hgb,hp,hce,q1,hglt⟩
   have HP:=Lib.hid hp;have HCE:=Lib.hid hce;have HQ1:=Lib.hid ((Q.drew _).trans q1)
   clear hp hce q1
   go_wp2_with fail
   refine(Backward_any gb ks.length cap w1).mono ?_
   rintro e w2 ⟨rfl,hw2⟩
   have hq2:Q w1 w2:=by rw[←hw2];exact Q.alloc _ _
   have hB2:Boxed w2 w1.heap.size 135 (.slice (some ⟨gb,0,none⟩) ks.length cap):=by rw[←hw2];exact Boxed.new w1 _ _
   have hs2:w2.heap.size=w1.heap.size+1:=by rw[←hw2];simp
   have HQ2:=Lib.hid hq2;have HB2:=Lib.hid hB2;have HS2:=Lib.hid hs2
   clear hw2 hq2 hB2 hs2
   go_wp2_with fail
   refine(wpIn_wide (n:=0)).1 ?_
   refine wpIn_act2 (fun A0 hA0=>?_)
   have hgb2:w.heap.size+2≤gb:=by have:=HSZ.out;have h2:wa.drew.heap.size=wa.heap.size:=rfl;omega
   have hg1s:wa.heap.size≤w1.heap.size:=HQ1.out.size
   have hw1s:w.heap.size+2≤w1.heap.size:=by have:=HSZ.out;omega
   have hqa2:Q wa w2:=HQ1.out.trans HQ2.out
   have hkl:ks.length=m.length:=by rw[HP.out.length_eq,List.length_map]
   have HQA2:=Lib.hid hqa2;have HKL:=Lib.hid hkl
   clear hqa2 hkl hln d0 d1 e1 c1 c4
   refine wp_rangeG (gf:=173) (lb:=#[.pointer (some ⟨w1.heap.size,0,none⟩)]) (by rw[hA0];rfl) (enters_of Tryz.func173 (by kernel_rfl) rfl) (step:=backStep ks) (fin':=fun k=>k=ks.length) (s0:=0) (own:=fun _=>False) (keep:=fun k=>k=w1.heap.size∨k=gb) (n₀:=0)
    (fun W1 hq hz=>Backward_seq w1.heap.size 0 gb cap ks W1 ((hq.block _ (lt_of_get HB2.out)).trans HB2.out) (fun i hi=>cellQ (HQ2.out.trans hq) (HCE.out i hi)) (by have:=HQ2.out.size;have:=hq.size;omega) (Nat.zero_le _) (by have:=HKL.out;omega))
    (fun _ h=>h.elim) (fun k h=>by have:=HS2.out;omega) (Nat.zero_le _) (fun k W args k2 h=>by obtain⟨x,_,rfl,_⟩:=h;rfl)
    (fun k W=>Itk (fun _=>False) w2.heap.size w2 W∧∀i x,i<k→(backL ks)[i]?=some x→∀kk,getI x.2 m=some kk→kk.dirty=true)
    (fun c _ W=>c=.ret∧Boxed W (w.heap.size+1) 30 (.int .i64 0)∧Turn F w W∧∃i kk,getI i m=some kk∧kk.dirty=false∧CacG W F cb p most clock ms mb (delI i m))
    (fun k k2 a' _=>∃x:Nat×Nat,(backL ks)[k]?=some x∧k2=k+1∧a'={ tmps:=((A0.tmps.setIfInBounds 21 (.int .i64 (x.1:Nat))).setIfInBounds 22 (keyI x.2)).setIfInBounds 5 (keyI x.2),defers:=[] })
    ?hI ?hIx (fun _ _ _ _ _ h _=>h) ?h0 ?assign ?body ?done ?stop
   case hI =>
    rintro k A B ⟨h1,h2⟩ hi
    exact⟨h1.trans hi,h2⟩
   case hIx =>
    rintro c k A B ⟨rfl,h1,h2,i,kk,h3,h4,h5⟩ hi
    have hsA:=h2.size
    refine⟨rfl,hi.boxed h1 (fun h=>h),⟨hi.os.trans h2.os,hi.tape.trans h2.tape,hi.output.trans h2.output,Nat.le_trans h2.size hi.size,fun j h6 h7=>(hi.low j (by have:=HS2.out;omega) (by omega) (fun h=>h)).trans (h2.block j h6 h7)⟩,i,kk,h3,h4,h5.itk hi (fun j hj=>by have:=H.out.lt j hj;have:=HS2.out;omega)⟩
   case h0=>exact⟨Itk.refl _ _ _,fun i x hi=>by omega⟩
   case assign =>
    rintro l' j j2 W' args K hi ⟨x,hx,rfl,rfl⟩ hz hK
    have HK:=Lib.hid hK;have HI:=Lib.hid hi
    clear hK hi
    subst hA0
    gi_wp2
    exact HK.out _ _ (Q.refl _) HI.out ⟨x,hx,by first|rfl|trivial,by first|rfl|trivial⟩
   case body =>
    rintro l' j j2 a' W' ⟨⟨rc,hrc⟩,hdf⟩ hl' ⟨h1,h2⟩ ⟨x,hx,rfl,rfl⟩ hkb hz
    have hxk:=backL_key hx
    obtain⟨kk,hkk⟩:∃kk,getI x.2 m=some kk:=by
     cases hg:getI x.2 m with
     | some kk=>exact⟨kk,rfl⟩
     | none =>
      obtain⟨y,hy,e⟩:=List.mem_map.1 (HP.out.mem_iff.1 hxk.1)
      exact absurd e (getI_none.1 hg y hy)
    have hcg:=(HH.out.keep HQA2.out).itk h1 (fun k hk=>by have:=H.out.lt k hk;have:=HS2.out;omega)
    have c4:=hcg.box.cell 4 (.map (some mb)) rfl
    have hb0':Boxed W' w.heap.size 83 (ptrV cb):=h1.boxed ((HQA2.out.block _ (lt_of_get HB0.out)).trans HB0.out) (fun h=>h)
    have hb1':Boxed W' (w.heap.size+1) 30 (.int .i64 0):=h1.boxed ((HQA2.out.block _ (lt_of_get HB1.out)).trans HB1.out) (fun h=>h)
    have d0:=hb0'.cell;have d1:=hb1'.cell;have f1:=hb1'.frozen
    have hlk:=hcg.lookHit hkk
    have k1:=(hcg.kept _ (getI_mem hkk)).1.cell 1 (.bool kk.dirty) rfl
    have k2:=(hcg.kept _ (getI_mem hkk)).1.cell 2 (.int .i64 0) rfl
    have hlu:=run_lookup_int (P:=Tryz.prog) hcg.map 140 3 141 Tryz.underlying140 Tryz.underlying3 (.pointer none) (run_mapElem _) x.2 false
    simp only[Bool.false_eq_true,if_false] at hlu
    rw[hlk] at hlu
    simp only[] at k1 k2
    obtain⟨x1,x2⟩:=x
    simp only at *
    have hW2:w2.heap.size≤W'.heap.size:=h1.size
    have hww:w.heap.size+3≤w2.heap.size:=by have:=HS2.out;omega
    subst hA0
    simp only[List.setIfInBounds_toArray,List.set_cons_succ,List.set_cons_zero]
    cases hdr:kk.dirty with
    | true =>
     rw[hdr] at k1
     have h2':∀i x,i<j+1→(backL ks)[i]?=some x→∀kk,getI x.2 m=some kk→kk.dirty=true:=fun i y hi hy kk' hg=>by
      by_cases hik:i<j
      ·exact h2 i y hik hy kk' hg
      ·obtain rfl:i=j:=by omega
       rw[hx] at hy
       injection hy with hy
       subst hy
       rw[hkk] at hg
       injection hg with hg
       subst hg
       exact hdr
     have HI1:=Lib.hid h1;have HI2:=Lib.hid h2'
     clear h1 h2 h2' hcg hb0' hb1' hlk hx hxk hkk hrc hdf hkb
     gi_wp2_with fail
     exact⟨Bk.refl _ _ _,HI1.out,HI2.out⟩
    | false =>
     rw[hdr] at k1
     obtain⟨w4,hdel,hm4,hg4,hz4⟩:=run_delete_int (P:=Tryz.prog) hcg.map 140 3 141 Tryz.underlying140 Tryz.underlying3 x2
     have t4:=CacG.turn_of_map hg4
     have h4:=hcg.gone HO.out.keys hm4 t4
     have hmb:F mb:=H.out.fm
     have hmlt:mb<w.heap.size:=H.out.lt mb hmb
     have hb14:Boxed w4 (w.heap.size+1) 30 (.int .i64 0):=(t4.block _ (lt_of_get hb1') (by omega)).trans hb1'
     have d14:=hb14.cell;have f14:=hb14.frozen
     have t5:Turn (fun j=>j=w.heap.size+1) w4 (w4.setCell ⟨w.heap.size+1,0,none⟩ (.int .i64 0)):=Turn.setCell (a:=⟨w.heap.size+1,0,none⟩) (Turn.refl (fun j=>j=w.heap.size+1) w4) (.inl rfl) _
     have h5:=h4.beside t5 (fun k hk e=>by have:=H.out.lt k hk;omega)
     have hb15:=hb14.set (.int .i64 0)
     have htW:Turn F w W':=(⟨h1.os.trans (HQ.out.trans HQA2.out).os,h1.tape.trans (HQ.out.trans HQA2.out).tape,h1.output.trans (HQ.out.trans HQA2.out).output,Nat.le_trans (HQ.out.trans HQA2.out).size h1.size,fun j h6 h7=>(h1.low j (by omega) (by omega) (fun h=>h)).trans ((HQ.out.trans HQA2.out).block j h6)⟩)
     have ht5:Turn F w (w4.setCell ⟨w.heap.size+1,0,none⟩ (.int .i64 0)):=(htW.trans (t4.mono (fun j hj=>by subst hj;exact hmb))).setCell (a:=⟨w.heap.size+1,0,none⟩) (.inr (by simp)) _
     have hbk:BkS (fun b=>b=w2.heap.size∨b=w2.heap.size+1) W' (w4.setCell ⟨w.heap.size+1,0,none⟩ (.int .i64 0)) :=
      ⟨Nat.le_trans t4.size t5.size,fun b hb hbl=>(t5.block b (Nat.lt_of_lt_of_le hbl t4.size) (by omega)).trans (t4.block b hbl (by omega))⟩
     have HE:=Lib.hid (And.intro hbk (And.intro hb15 (And.intro ht5 h5)));have HKK:=Lib.hid hkk;have HDR:=Lib.hid hdr
     clear h1 h2 hcg hb0' hb1' hlk hx hxk hkk hrc hdf hkb hm4 hg4 hz4 t4 h4 hb14 t5 h5 hb15 htW ht5 hbk hdr
     gi_wp2_with fail
     exact⟨HE.out.1,rfl,HE.out.2.1,HE.out.2.2.1,x2,kk,HKK.out,HDR.out,HE.out.2.2.2⟩
   case done =>
    rintro D kz W' hD _ rfl ⟨h1,h2⟩ hK
    exfalso
    obtain⟨y,hy,hyd⟩:=HO.out.clean_one (by omega)
    have hg:=getI_of_mem HO.out.keys (k:=y.1) (v:=y.2) hy
    obtain⟨i,x,hx,hxk,hil⟩:=backL_mem (HP.out.mem_iff.2 (List.mem_map.2 ⟨y,hy,rfl⟩))
    have:=h2 i x hil hx y.2 (by rw[hxk];exact hg)
    rw[hyd] at this
    exact absurd this (by decide)
   case stop =>
    rintro D c k W' hD ⟨rfl,hb1',ht,i,kk,hg,hd,hcg⟩ hK
    obtain⟨ho2,hl2⟩:=HO.out.drop hg hd
    have hDw:w.heap.size+3≤D:=by have:=HS2.out;omega
    have tp:Turn (fun j=>j=D) W' (W'.putObj D (.deferred none)):=⟨rfl,rfl,rfl,by simp,fun k h1 h2=>World.putObj_heap_other h2⟩
    have h6:=hcg.beside tp (fun k hk e=>by have:=H.out.lt k hk;omega)
    have hb6:Boxed (W'.putObj D (.deferred none)) (w.heap.size+1) 30 (.int .i64 0):=(tp.block _ (lt_of_get hb1') (by omega)).trans hb1'
    have ht6:Turn F w (W'.putObj D (.deferred none)):=⟨ht.os,ht.tape,ht.output,Nat.le_trans ht.size tp.size,fun j h7 h8=>(tp.block j (Nat.lt_of_lt_of_le h7 ht.size) (by omega)).trans (ht.block j h7 h8)⟩
    have HE:=Lib.hid (And.intro h6 (And.intro ht6 ho2));have HB6:=Lib.hid hb6;have HK:=Lib.hid hK
    have hno:∀j,getI j m=none→getI j (delI i m)=none:=fun j hj=>by
     rw[delI_eq i m HO.out.keys]
     exact getI_none.2 (fun x hx=>getI_none.1 hj x (List.mem_filter.1 hx).1)
    have HNO:=Lib.hid hno
    clear hb1' ht hg hd hcg ho2 tp h6 hb6 ht6 hK hno
    subst hA0
    gi_wp2_with fail
    refine⟨by simp,.inl ⟨_,_,rfl,run_takeDeferred HK.out,?_⟩⟩
    exact⟨.int .i64 0,results_cell1 rfl _ _ ⟨w.heap.size+1,0,none⟩ _ rfl (load_errno _ _ 0 HB6.out.cell),rfl,HE.out.2.1,delI i m,HE.out.1,HE.out.2.2,by omega,HNO.out⟩
end
section
open Go.RowKit
def KeyRow(w:World)(n:Nat)(v:Value)(ks:List Nat):Prop:=∃a cap,v=.slice a ks.length cap∧(0<ks.length→∃g,a=some ⟨g,0,none⟩∧n≤g∧g<w.heap.size∧∀i (hi:i<ks.length),w.cell? ⟨g,i,none⟩=some (keyI ks[i]))
theorem KeyRow.stays{w w':World}{n:Nat}{v:Value}{ks:List Nat}(h:KeyRow w n v ks)(q:Q w w'):KeyRow w' n v ks:=by
 obtain⟨a,cap,rfl,hc⟩:=h
 refine⟨a,cap,rfl,fun hn=>?_⟩
 obtain⟨g,rfl,h1,h2,h3⟩:=hc hn
 exact⟨g,rfl,h1,Nat.lt_of_lt_of_le h2 q.size,fun i hi=>cellQ q (h3 i hi)⟩
theorem SortInt_any(w:World)(base:Nat)(v:Value)(ks:List Nat)(ho:w.ownsRow base 3 1 v ks.length (ks.map keyI))(hlen:ks.length≤1000000):
  Calls Tryz.prog 143 #[v] w fun e w'=>e=.returned (.tuple #[])∧∃ks':List Nat,ks'.Perm ks∧ks'.Pairwise (·≤·)∧KeyRow w' base v ks'∧∀n₀,n₀≤base→n₀≤w.heap.size→Below n₀ w w':=by
 rcases ho.2 with ⟨rfl,hz⟩|⟨g,cap,cur,rfl,hbg,hg,hcap,_⟩
 ·rw[hz] at ho
  have hk:ks=[]:=List.eq_nil_of_length_eq_zero hz
  subst hk
  refine(Tryz.slices_Sort_int_none none 0 w).mono ?_
  rintro e w' ⟨rfl,rfl⟩
  exact⟨rfl,[],List.Perm.refl _,List.Pairwise.nil,⟨none,0,rfl,fun h=>by simp at h⟩,fun n₀ _ _=>Below.refl _ _⟩
 ·rcases Nat.eq_zero_or_pos ks.length with hz|hn
  ·have hk:ks=[]:=List.eq_nil_of_length_eq_zero hz
   subst hk
   refine(Tryz.slices_Sort_int_none (some ⟨g,0,none⟩) cap w).mono ?_
   rintro e w' ⟨rfl,rfl⟩
   exact⟨rfl,[],List.Perm.refl _,List.Pairwise.nil,⟨_,cap,rfl,fun h=>by simp at h⟩,fun n₀ _ _=>Below.refl _ _⟩
  ·have hsl:=Sl.of_owns ho
   obtain⟨zs,hzs⟩:∃zs:List Int,zs=ks.map (fun k:Nat=>(k:Int)):=⟨_,rfl⟩
   have hzl:zs.length=ks.length:=by rw[hzs,List.length_map]
   have hH:Go.Sort.Holds (Value.int .i64) w g 0 zs.toArray:=fun j hj=>by
    have hj':j<ks.length:=by(have:j<zs.length:=(by simpa using hj));omega
    have hc:=row_cell hsl hn j (keyI ks[j]) (by simp[hj'])
    rw[Nat.zero_add]
    refine⟨?_,?_⟩
    ·rw[hc,getElem!_pos zs.toArray j hj]
     subst hzs
     simp
    ·have:Blk w g 3 cur:=hg
     exact this.frozen j
   have hs:=Tryz.slices_Sort_int g 0 cap zs w hH (lt_of_get hg) (by omega)
   rw[hzl] at hs
   refine hs.mono ?_
   rintro e w' ⟨rfl,n,os,hw'⟩
   obtain⟨zs',hzs'⟩:∃zs',zs'=zs.mergeSort fun x y=>decide (x≤y):=⟨_,rfl⟩
   rw[←hzs'] at hw'
   have hp:zs'.Perm zs:=by rw[hzs'];exact List.mergeSort_perm _ _
   have hso:zs'.Pairwise (fun x y=>decide (x≤y)=true):=by
    rw[hzs'];exact List.pairwise_mergeSort (fun a b c h1 h2=>by simp at *;omega) (fun a b=>by simp;omega) _
   have hnn:∀x∈zs',0≤x:=fun x hx=>by
    have:=hp.mem_iff.1 hx
    rw[hzs] at this
    obtain⟨k,_,rfl⟩:=List.mem_map.1 this
    omega
   have hwd:w'=sortWorld (Value.int .i64) w g 0 n zs'.toArray os:=hw'
   have hgr:w.grownBy w' (some g):=by rw[hwd];exact sort_grown1 (Value.int .i64) w g 0 n zs'.toArray os
   have hhh:Go.Sort.Holds (Value.int .i64) w' g 0 zs'.toArray:=by rw[hwd];exact holds_sortWorld (Value.int .i64) w g 0 n zs.toArray zs'.toArray os (lt_of_get hg) hH (by simp[hp.length_eq])
   have hl':zs'.length=ks.length:=by rw[hp.length_eq,hzl]
   refine⟨rfl,zs'.map Int.toNat,?_,?_,⟨_,cap,by rw[List.length_map,hl'],fun _=>⟨g,rfl,hbg,Nat.lt_of_lt_of_le (lt_of_get hg) hgr.size,fun i hi=>?_⟩⟩,fun n₀ h1 h2=>(Below.refl _ _).grown hgr h2 (fun k hk=>by cases hk;omega)⟩
   ·have:=hp.map Int.toNat
    have e:zs.map Int.toNat=ks:=by rw[hzs,List.map_map];simp[Function.comp_def]
    rwa [e] at this
   ·refine List.pairwise_map.2 (hso.imp (fun h=>?_))
    simp at h;omega
   ·have hi':i<zs'.length:=by simpa using hi
    have hh:=(hhh i (by simpa using hi')).1
    rw[Nat.zero_add,getElem!_pos zs'.toArray i (by simpa using hi')] at hh
    rw[hh,List.getElem_map]
    have:=hnn zs'[i] (List.getElem_mem hi')
    simp only[List.getElem_toArray,keyI,Int.toNat_of_nonneg this]
theorem SortedKeys_any(B mb:Nat)(m:List (Nat×Value))(w:World)(hb:Boxed w B 140 (.map (some mb)))(hm:MapI w mb m)(hlen:m.length≤1000000):
  Calls Tryz.prog 102 #[.func (.func 144) #[] #[.pointer (some ⟨B,0,none⟩)]] w fun e w' =>
   ∃(v:Value) (ks:List Nat),e=.returned v∧ks.Perm (m.map (·.1))∧ks.Pairwise (·≤·)∧KeyRow w' w.heap.size v ks∧Q w w':=by
 have hc:=Collect_any B mb m w hb hm hlen
 have HC:=Lib.hid hc
 clear hc hb hm
 go_enter Tryz.func102,Tryz.ntmps102
 go_wp2_with fail
 refine HC.out.mono ?_
 rintro e w1 ⟨v,ks,rfl,hp,ho,q⟩
 have hkl:ks.length=m.length:=by rw[hp.length_eq,List.length_map]
 have cs:=SortInt_any w1 w.heap.size v ks ho (by omega)
 have HP:=Lib.hid hp;have HQ:=Lib.hid q;have CS:=Lib.hid cs
 clear hp ho q cs hkl
 go_wp2_with fail
 refine CS.out.mono ?_
 rintro e w2 ⟨rfl,ks',hp2,hso,hkr,hbl⟩
 have hq2:Q w w2:=Below.trans HQ.out (hbl w.heap.size (Nat.le_refl _) HQ.out.size)
 have HP2:=Lib.hid hp2;have HSO:=Lib.hid hso;have HKR:=Lib.hid hkr;have HQ2:=Lib.hid hq2
 clear hp2 hso hkr hbl hq2
 go_wp2_with fail
 go_ret
 exact⟨_,ks',rfl,HP2.out.trans HP.out,HSO.out,HKR.out,HQ2.out⟩
def dirtyAt(m:KeptLs)(i:Nat):Option WrL:=(getI i m).bind fun k=>if k.dirty then some (i,k.data) else none
theorem filterMap_take_succ{α β:Type}(f:α→Option β)(l:List α)(k:Nat)(h:k<l.length):(l.take (k+1)).filterMap f=(l.take k).filterMap f++(match f l[k] with|some x=>[x]|none=>[]):=by
 rw[List.take_succ_eq_append_getElem h,List.filterMap_append]
 congr 1
 cases hf:f l[k]<;>simp[hf]
theorem Dirty_any(w:World)(F:Nat→Prop)(cb p n most clock:Nat)(ms:Int)(mb:Nat)(m:KeptLs)(tx:List WrL)(g:Nat→Bytes)(h:CacG w F cb p most clock ms mb m)(ho:CacOk n most clock tx g m):
  Calls Tryz.prog 64 #[ptrV cb] w fun e w'=>∃v,e=.returned v∧w'.ownsRow w.heap.size 102 2 v tx.length (wrVs tx)∧Q w w':=by
 obtain⟨i1,hi1,hy0,hy1,hy2⟩:=info_parts tinfoWr
 have hml:m.length≤1024:=by have:=ho.len;have:=ho.cap;omega
 have c4:=h.box.cell 4 (.map (some mb)) rfl
 have hdt:=ho.dirties
 have hgs:∀k∈m.map (·.1),∃kk,getI k m=some kk:=fun k hk=>by
  cases hg:getI k m with
  | some kk=>exact⟨kk,rfl⟩
  | none =>
   obtain⟨y,hy,e⟩:=List.mem_map.1 hk
   exact absurd e (getI_none.1 hg y hy)
 have hsl:=fun (W:World) (B:Nat) (q:Q w W) (hb:Boxed W B 140 (.map (some mb)))=>SortedKeys_any B mb (mapOf m) W hb (h.keep q).map (by rw[h.len];omega)
 have hmk:(mapOf m).map (·.1)=m.map (·.1):=by simp[mapOf]
 rw[hmk] at hsl
 have HSL:=Lib.hid hsl;have HH:=Lib.hid h;have HDT:=Lib.hid hdt;have HGS:=Lib.hid hgs
 clear hsl hmk h hdt hgs ho
 go_enter Tryz.func64,Tryz.ntmps64
 go_wp2_with fail
 refine(Keys_any mb w).mono ?_
 rintro e w1 ⟨rfl,hw1⟩
 have hq1:Q w w1:=by rw[←hw1];exact Q.alloc _ _
 have hb1:Boxed w1 w.heap.size 140 (.map (some mb)):=by rw[←hw1];exact Boxed.new w _ _
 have hs1:=HSL.out w1 w.heap.size hq1 hb1
 have HQ1:=Lib.hid hq1;have HS1:=Lib.hid hs1
 clear hw1 hq1 hb1 hs1
 go_wp2_with fail
 refine HS1.out.mono ?_
 rintro e w2 ⟨v,ks,rfl,hp,hso,hkr,q2⟩
 have hq2:Q w w2:=HQ1.out.trans q2
 have hkl:ks.length=m.length:=by rw[hp.length_eq,List.length_map]
 obtain⟨a,cap,rfl,hcell⟩:=hkr
 have hfin:ks.filterMap (dirtyAt m)=tx:=HDT.out ks hp hso
 have HP:=Lib.hid hp;have HQ2:=Lib.hid hq2;have HCE:=Lib.hid hcell;have HF:=Lib.hid hfin;have HKL:=Lib.hid hkl
 have hkm:ks.length≤1024:=by omega
 clear hp hso hq2 q2 hcell hfin hkl c4
 go_wp2_with fail
 go_loopw [3,14] (fun v i wr=>∃k:Nat,i=.int .i64 (k:Nat)∧k≤ks.length∧Hid (wr.ownsRow w2.heap.size 102 2 v ((ks.take k).filterMap (dirtyAt m)).length (wrVs ((ks.take k).filterMap (dirtyAt m))))∧Hid (Q w2 wr)) (fun _ i _=>ks.length-(intOf i).toNat)
 case atStart=>exact⟨0,rfl,Nat.zero_le _,Lib.hid (World.ownsRow_nil _ _ _ _),Lib.hid (Q.refl _)⟩
 case round =>
  obtain⟨k,rfl,hk,HOW,HQ⟩:=hrel
  by_cases hlt:k<ks.length
  ·have hki:(k:Int)<(ks.length:Int):=by omega
   have hki0:(0:Int)≤(k:Int):=by omega
   obtain⟨gk,rfl,_,_,hcl⟩:=HCE.out (by omega)
   have x1:=cellQ HQ.out (hcl k hlt)
   obtain⟨kk,hkk⟩:=HGS.out ks[k] (HP.out.mem_iff.1 (List.getElem_mem hlt))
   have hcg:=HH.out.keep (HQ2.out.trans HQ.out)
   have c4:=hcg.box.cell 4 (.map (some mb)) rfl
   have hmp:=hcg.map
   have hlk:=hcg.lookHit hkk
   have k0:=(hcg.kept _ (getI_mem hkk)).1.cell 0 (strV kk.data) rfl
   have k1:=(hcg.kept _ (getI_mem hkk)).1.cell 1 (.bool kk.dirty) rfl
   simp only[] at k0 k1
   have hst:=filterMap_take_succ (dirtyAt m) ks k hlt
   have hda:dirtyAt m ks[k]=if kk.dirty then some (ks[k],kk.data) else none:=by unfold dirtyAt;rw[hkk];rfl
   have hfl:((ks.take k).filterMap (dirtyAt m)).length≤1024:=Nat.le_trans (List.length_filterMap_le _ _) (by rw[List.length_take];omega)
   rw[hda] at hst
   generalize hkk2:ks[k]=key at *
   generalize hacc:(ks.take k).filterMap (dirtyAt m)=acc at *
   have HMP:=Lib.hid hmp;have HLK:=Lib.hid hlk;have HST:=Lib.hid hst
   clear hmp hlk hst hcg hda hkk hkk2 hacc hcl
   cases hdr:kk.dirty with
   | true =>
    rw[hdr] at k1
    have hst:=HST.out
    rw[hdr] at hst
    simp only[if_true] at hst
    have HST2:=Lib.hid hst
    clear hst hdr HST
    generalize kk.data=kd at *
    have hc1:∀u∈#[Value.int .i64 (key:Nat),strV kd].toList,u.oneCell'=true:=by intro u hu;simp at hu;rcases hu with rfl|rfl<;>rfl
    have hc2:(acc.length+1)*24≤140737488355328:=by omega
    have HC3:=Lib.hid hc1;have HC4:=Lib.hid hc2
    have hb0:w2.heap.size≤wr.heap.size:=HQ.out.size
    clear hc1 hc2
    go_wp2_with (first|(at_lookup;refine wpList_lookup_int _ (by rfl) _ _ 140 false (by rfl) 3 141 Tryz.underlying140 Tryz.underlying3 (.pointer none) (run_mapElem _) mb _ HMP.out key (by rfl) (by rfl) ?_;rw[HLK.out])|(at_builtin;refine wpList_app wr (by rfl) _ _ 49 (by rfl) w2.heap.size 102 _ i1 (.agg #[.int .i64 0,strV []]) 2 24 Tryz.underlying49 hi1 hy0 hy1 hy2 rfl (by decide) (by decide) _ _ _ (by rfl) HOW.out #[.int .i64 (key:Nat),strV kd] (by rfl) rfl HC3.out HC4.out hb0 ?_))
    intro g11 cap11 w11 hr11 hg11 ho11 hlt11 hlt11b
    have hq21:Q w2 w11:=grown_below HQ.out HOW.out hg11 (Nat.le_refl _) hb0
    have hr11':w11.ownsRow w2.heap.size 102 2 (.slice (some ⟨g11,0,none⟩) (acc.length+1) cap11) ((ks.take (k+1)).filterMap (dirtyAt m)).length (wrVs ((ks.take (k+1)).filterMap (dirtyAt m))):=by
     rw[HST2.out,List.length_append,wrVs_append,show wrVs [(key,kd)]=encW (key,kd) by simp[wrVs]];exact hr11
    have HQ11:=Lib.hid hq21;have HR11:=Lib.hid hr11'
    clear hr11 hg11 ho11 hlt11 hlt11b hr11' hq21
    go_wp2_with fail
    go_roundw
    case rel=>exact⟨k+1,by go_num,by omega,HR11,HQ11⟩
    case measure=>simp[intOf];omega
   | false =>
    rw[hdr] at k1
    have hst:=HST.out
    rw[hdr] at hst
    simp only[Bool.false_eq_true,if_false,List.append_nil] at hst
    have HST2:=Lib.hid hst
    clear hst hdr HST
    go_wp2_with (at_lookup;refine wpList_lookup_int _ (by rfl) _ _ 140 false (by rfl) 3 141 Tryz.underlying140 Tryz.underlying3 (.pointer none) (run_mapElem _) mb _ HMP.out key (by rfl) (by rfl) ?_;rw[HLK.out])
    go_roundw
    case rel=>exact⟨k+1,by go_num,by omega,Lib.hid (by rw[HST2.out];exact HOW.out),HQ⟩
    case measure=>simp[intOf];omega
  ·have hki:¬(k:Int)<(ks.length:Int):=by omega
   obtain rfl:k=ks.length:=by omega
   have hrow:=HOW.out
   rw[List.take_length,HF.out] at hrow
   have HR:=Lib.hid hrow
   clear hrow
   go_wp2_with fail
   go_ret
   exact⟨_,rfl,owns_low HR.out HQ2.out.size,HQ2.out.trans HQ.out⟩
theorem Turn.more{F G:Nat→Prop}{A B C:World}(h:Turn F A B)(t:Turn G B C)(hG:∀k,G k→F k∨A.heap.size≤k):Turn F A C :=
 ⟨t.os.trans h.os,t.tape.trans h.tape,t.output.trans h.output,Nat.le_trans h.size t.size,fun k h1 h2=>(t.block k (Nat.lt_of_lt_of_le h1 h.size) (fun hg=>(hG k hg).elim h2 (fun h3=>by omega))).trans (h.block k h1 h2)⟩
def cleanS(m:KeptLs)(left:List Nat):KeptLs:=m.map fun x=>(x.1,if left.contains x.1 then x.2 else { x.2 with dirty:=false })
theorem cleanS_keys(m:KeptLs)(left:List Nat):(cleanS m left).map (·.1)=m.map (·.1):=by simp[cleanS,List.map_map,Function.comp_def]
theorem cleanS_ptrs(m:KeptLs)(left:List Nat):(cleanS m left).map (·.2.p)=m.map (·.2.p):=by
 unfold cleanS
 rw[List.map_map]
 refine List.map_congr_left (fun x _=>?_)
 simp only[Function.comp]
 split<;>rfl
theorem putI_eq_map{α:Type}{k:Nat}{v u:α}{m:List (Nat×α)}(hn:(m.map (·.1)).Nodup)(hg:getI k m=some u):putI k v m=m.map fun x=>if x.1=k then(k,v) else x:=by
 induction m with
 | nil=>cases hg
 | cons y m ih =>
  simp only[List.map_cons,List.nodup_cons] at hn
  unfold getI at hg
  unfold putI
  by_cases hy:y.1=k
  ·rw[if_pos hy,List.map_cons,if_pos hy]
   congr 1
   conv=>lhs;rw[←List.map_id m]
   refine List.map_congr_left (fun x hx=>?_)
   rw[if_neg]
   ·rfl
   ·intro e
    exact hn.1 (List.mem_map.2 ⟨x,hx,by rw[e,hy]⟩)
  ·rw[if_neg hy] at hg ⊢
   rw[List.map_cons,if_neg hy,ih hn.2 hg]
theorem cleanS_step{m:KeptLs}{k:Nat}{kk:KeptL}{left left':List Nat}(hn:(m.map (·.1)).Nodup)(hg:getI k m=some kk)(hp:left.Perm (k::left'))(hl:left.Nodup):
  getI k (cleanS m left)=some kk∧putI k { kk with dirty:=false } (cleanS m left)=cleanS m left':=by
 have hkl:k∈left:=hp.mem_iff.2 (List.mem_cons_self ..)
 have hnd:(k::left').Nodup:=hp.nodup_iff.1 hl
 have hkl':k∉left':=(List.nodup_cons.1 hnd).1
 have h1:getI k (cleanS m left)=some kk:=by
  refine getI_of_mem (by rw[cleanS_keys];exact hn) (List.mem_map.2 ⟨(k,kk),getI_mem hg,?_⟩)
  simp[hkl]
 refine⟨h1,?_⟩
 rw[putI_eq_map (by rw[cleanS_keys];exact hn) h1]
 unfold cleanS
 rw[List.map_map]
 refine List.map_congr_left (fun x hx=>?_)
 simp only[Function.comp]
 by_cases hxk:x.1=k
 ·have hxe:x=(k,kk):=by
   have:=getI_of_mem hn (k:=x.1) (v:=x.2) hx
   rw[hxk,hg] at this
   injection this with this
   rw[←hxk,this]
  subst hxe
  simp[hkl']
 ·have:left.contains x.1=left'.contains x.1:=by
   have h1:x.1∈left↔x.1∈left':=by
    rw[hp.mem_iff,List.mem_cons]
    exact⟨fun h=>h.resolve_left hxk,.inr⟩
   by_cases hm:x.1∈left'
   ·simp[hm,h1.2 hm]
   ·have hm2:x.1∉left:=fun h=>hm (h1.1 h)
    simp[hm,hm2]
  simp only[hxk,if_false,this]
theorem cleanS_all{w:World}{b r:Nat}{m:KeptLs}(left:List Nat)(h:∀x∈m,x.1∈left):cleanS m left=m:=by
 unfold cleanS
 conv=>rhs;rw[←List.map_id m]
 refine List.map_congr_left (fun x hx=>?_)
 simp[h x hx]
theorem Clean_any(w:World)(F:Nat→Prop)(cb p most clock:Nat)(ms:Int)(mb:Nat)(m:KeptLs)(h:CacG w F cb p most clock ms mb m)(hk:(m.map (·.1)).Nodup)(hp:(m.map (·.2.p)).Nodup):
  Calls Tryz.prog 69 #[ptrV cb] w fun e w'=>e=.returned (.tuple #[])∧CacG w' F cb p most clock ms mb (m.map fun x=>(x.1,{ x.2 with dirty:=false }))∧Turn F w w':=by
 have c4:=h.box.cell 4 (.map (some mb)) rfl
 obtain⟨o,hrg,hri⟩:=RangeI.made (P:=Tryz.prog) h.map 140 3 141 Tryz.underlying140
 have hq0:Q w (w.alloc o):=Q.alloc _ _
 have h0:=h.keep hq0
 have hst:cleanS m ((mapOf m).map (·.1))=m:=cleanS_all (w:=w) (b:=0) (r:=0) _ (fun x hx=>List.mem_map.2 ⟨(x.1,ptrV x.2.p),List.mem_map.2 ⟨x,hx,rfl⟩,rfl⟩)
 rw[←hst] at h0
 have HRI:=Lib.hid hri;have H0:=Lib.hid h0;have HH:=Lib.hid h;have HQ0:=Lib.hid hq0;have HK:=Lib.hid hk;have HP:=Lib.hid hp
 clear hri h0 h hq0 hst hk hp
 go_enter Tryz.func69,Tryz.ntmps69
 go_wp2_with fail
 clear hrg c4
 go_loopw [3] (fun _ wr=>∃left,Hid (RangeI wr mb w.heap.size (mapOf m) left)∧Hid (CacG wr F cb p most clock ms mb (cleanS m left))∧Hid (Turn F w wr)) (fun _ wr=>wr.rangeLeft mb w.heap.size)
 case atStart=>exact⟨_,HRI,H0,Lib.hid (Turn.of_q HQ0.out)⟩
 case round =>
  obtain⟨left,HR,HC,HT⟩:=hrel
  rcases RangeI.next (P:=Tryz.prog) HR.out with ⟨rfl,hnx⟩|⟨k,v,left',w',hkv,hpm,hnx,hri',hg,hz,hen⟩
  ·have hfin:=HC.out
   rw[show cleanS m []=m.map (fun x=>(x.1,{ x.2 with dirty:=false })) from by simp[cleanS]] at hfin
   have HF:=Lib.hid hfin
   clear hfin
   go_wp2_with fail
   go_end0
   exact⟨rfl,HF.out,HT.out⟩
  ·obtain⟨x,hx,hxe⟩:=List.mem_map.1 hkv
   obtain⟨kx,kk⟩:=x
   simp only[Prod.mk.injEq] at hxe
   obtain⟨rfl,rfl⟩:=hxe
   have hgk:=getI_of_mem HK.out hx
   obtain⟨s1,s2⟩:=cleanS_step HK.out hgk hpm HR.out.nodup.1
   have tr:Turn (fun j=>j=w.heap.size) wr w':=CacG.turn_of_map hg
   have hnF:∀j,F j→j≠w.heap.size:=fun j hj e=>by have:=HH.out.lt j hj;omega
   have h1:=HC.out.beside tr hnF
   have hkb:=(h1.kept _ (getI_mem s1)).1
   have hkF:=(h1.kept _ (getI_mem s1)).2
   have d1:=hkb.cell 1 (.bool kk.dirty) rfl
   have f1:=hkb.frozen 1
   simp only[] at d1 f1 hkF
   have t2:Turn (fun j=>j=kk.p) w' (w'.setCell ⟨kk.p,1,none⟩ (.bool false)):=Turn.setCell (a:=⟨kk.p,1,none⟩) (Turn.refl (fun j=>j=kk.p) w') (.inl rfl) _
   have h2:=h1.turnKept (by rw[cleanS_keys];exact HK.out) (by rw[cleanS_ptrs];exact HP.out) s1 (k':={ kk with dirty:=false }) rfl t2 (hkb.set 1 (.bool false))
   rw[s2] at h2
   have hrF:kk.p≠mb∧kk.p≠w.heap.size:=⟨(h1.apart.2 _ (getI_mem s1)).2,hnF _ hkF⟩
   have hr2:RangeI (w'.setCell ⟨kk.p,1,none⟩ (.bool false)) mb w.heap.size (mapOf m) left':=hri'.same (t2.block _ hri'.map.lt hrF.1.symm) (by
    obtain⟨since,seen,c0,hit⟩:=hri'.iter
    exact t2.block _ (lt_of_get hit) hrF.2.symm)
   have ht2:Turn F w (w'.setCell ⟨kk.p,1,none⟩ (.bool false)):=(HT.out.more tr (fun j hj=>.inr (Nat.le_of_eq hj.symm))).trans (t2.mono (fun j hj=>by subst hj;exact hkF))
   have hln:(w'.setCell ⟨kk.p,1,none⟩ (.bool false)).rangeLeft mb w.heap.size<wr.rangeLeft mb w.heap.size:=by rw[hr2.len,HR.out.len,hpm.length_eq];simp
   have H2:=Lib.hid h2;have HR2:=Lib.hid hr2;have HT2:=Lib.hid ht2;have HL:=Lib.hid hln
   clear h2 hr2 ht2 hln h1 hkb hkF t2 tr hg hz hri' hkv hpm s1 s2 hx hgk hrF
   go_wp2_with fail
   go_roundw
   case rel=>exact⟨left',HR2,H2,HT2⟩
   case measure=>exact HL.out
def dropS(m:KeptLs)(left:List Nat):KeptLs:=m.filter fun x => !x.2.dirty||left.contains x.1
theorem dropS_sub(m:KeptLs)(left:List Nat):(dropS m left).Sublist m:=List.filter_sublist
theorem dropS_step{m:KeptLs}{k:Nat}{kk:KeptL}{left left':List Nat}(hn:(m.map (·.1)).Nodup)(hg:getI k m=some kk)(hp:left.Perm (k::left'))(hl:left.Nodup):
  getI k (dropS m left)=some kk∧k∉left'∧(kk.dirty=true→delI k (dropS m left)=dropS m left')∧(kk.dirty=false→dropS m left=dropS m left'):=by
 have hkl:k∈left:=hp.mem_iff.2 (List.mem_cons_self ..)
 have hnd:(k::left').Nodup:=hp.nodup_iff.1 hl
 have hkl':k∉left':=(List.nodup_cons.1 hnd).1
 have hns:((dropS m left).map (·.1)).Nodup:=((dropS_sub m left).map _).nodup hn
 have hmem:∀x∈m,x.1≠k→(left.contains x.1=left'.contains x.1):=fun x hx hxk=>by
  have h1:x.1∈left↔x.1∈left':=by
   rw[hp.mem_iff,List.mem_cons]
   exact⟨fun h=>h.resolve_left hxk,.inr⟩
  by_cases hm:x.1∈left'
  ·simp[hm,h1.2 hm]
  ·have hm2:x.1∉left:=fun h=>hm (h1.1 h)
   simp[hm,hm2]
 have hent:∀x∈m,x.1=k→x=(k,kk):=fun x hx hxk=>by
  have:=getI_of_mem hn (k:=x.1) (v:=x.2) hx
  rw[hxk,hg] at this
  injection this with this
  rw[←hxk,this]
 refine⟨getI_of_mem hns (List.mem_filter.2 ⟨getI_mem hg,by simp[hkl]⟩),hkl',fun hd=>?_,fun hd=>?_⟩
 ·rw[delI_eq k _ hns]
  unfold dropS
  rw[List.filter_filter]
  refine List.filter_congr (fun x hx=>?_)
  by_cases hxk:x.1=k
  ·rw[hent x hx hxk]
   simp[hd,hkl']
  ·have hxk':(x.1 != k)=true:=by simpa using hxk
   rw[hxk',Bool.true_and,hmem x hx hxk]
 ·unfold dropS
  refine List.filter_congr (fun x hx=>?_)
  by_cases hxk:x.1=k
  ·rw[hent x hx hxk]
   simp[hd]
  ·rw[hmem x hx hxk]
theorem dropS_all{m:KeptLs}(left:List Nat)(h:∀x∈m,x.1∈left):dropS m left=m:=by
 unfold dropS
 exact List.filter_eq_self.2 (fun x hx=>by simp[h x hx])
theorem Drop1_any(w:World)(k:Nat)(kk:KeptL)(h:Blk w kk.p 147 (kcells kk)):
  Calls Tryz.prog 146 #[keyI k,ptrV kk.p] w fun e w'=>e=.returned (.bool kk.dirty)∧w=w':=by
 have d1:=h.cell 1 (.bool kk.dirty) rfl
 clear h
 go_enter Tryz.func146,Tryz.ntmps146
 go_wp2_with fail
 go_ret
 exact⟨rfl,rfl⟩
theorem CacG.sub{w:World}{F:Nat→Prop}{cb p most clock:Nat}{ms:Int}{mb:Nat}{m m':KeptLs}(h:CacG w F cb p most clock ms mb m)(hs:m'.Sublist m)(hm:MapI w mb (mapOf m')):CacG w F cb p most clock ms mb m' :=
 ⟨h.box,h.fb,hm,h.fm,fun x hx=>h.kept x (hs.subset hx),h.lt⟩
theorem DeleteFunc_any(w:World)(F:Nat→Prop)(cb p most clock:Nat)(ms:Int)(mb:Nat)(m:KeptLs)(h:CacG w F cb p most clock ms mb m)(hk:(m.map (·.1)).Nodup):
  Calls Tryz.prog 145 #[.map (some mb),.func (.func 146) #[] #[]] w fun e w'=>e=.returned (.tuple #[])∧CacG w' F cb p most clock ms mb (m.filter fun x => !x.2.dirty)∧Turn F w w':=by
 obtain⟨o,hrg,hri⟩:=RangeI.made (P:=Tryz.prog) h.map 140 3 141 Tryz.underlying140
 have hq0:Q w (w.alloc o):=Q.alloc _ _
 have h0:=h.keep hq0
 have hst:dropS m ((mapOf m).map (·.1))=m:=dropS_all _ (fun x hx=>List.mem_map.2 ⟨(x.1,ptrV x.2.p),List.mem_map.2 ⟨x,hx,rfl⟩,rfl⟩)
 rw[←hst] at h0
 have hri':RangeI (w.alloc o) mb w.heap.size (mapOf (dropS m ((mapOf m).map (·.1)))) ((mapOf m).map (·.1)):=by rw[hst];exact hri
 have HRI:=Lib.hid hri';have H0:=Lib.hid h0;have HH:=Lib.hid h;have HQ0:=Lib.hid hq0;have HK:=Lib.hid hk
 clear hri hri' h0 h hq0 hst hk
 go_enter Tryz.func145,Tryz.ntmps145
 go_wp2_with fail
 clear hrg
 go_loopw [4] (fun _ wr=>∃left,Hid (RangeI wr mb w.heap.size (mapOf (dropS m left)) left)∧Hid (CacG wr F cb p most clock ms mb (dropS m left))∧Hid (Turn F w wr)) (fun _ wr=>wr.rangeLeft mb w.heap.size)
 case atStart=>exact⟨_,HRI,H0,Lib.hid (Turn.of_q HQ0.out)⟩
 case round =>
  obtain⟨left,HR,HC,HT⟩:=hrel
  rcases RangeI.next (P:=Tryz.prog) HR.out with ⟨rfl,hnx⟩|⟨k,v,left',w',hkv,hpm,hnx,hri',hg,hz,hen⟩
  ·have hfin:=HC.out
   rw[show dropS m []=m.filter (fun x => !x.2.dirty) from by unfold dropS;simp] at hfin
   have HF:=Lib.hid hfin
   clear hfin
   go_wp2_with fail
   go_end0
   exact⟨rfl,HF.out,HT.out⟩
  ·obtain⟨x,hx,hxe⟩:=List.mem_map.1 hkv
   obtain⟨kx,kk⟩:=x
   simp only[Prod.mk.injEq] at hxe
   obtain⟨rfl,rfl⟩:=hxe
   have hgk:=getI_of_mem HK.out ((dropS_sub m left).subset hx)
   obtain⟨s1,s2,s3,s4⟩:=dropS_step HK.out hgk hpm HR.out.nodup.1
   have tr:Turn (fun j=>j=w.heap.size) wr w':=CacG.turn_of_map hg
   have hnF:∀j,F j→j≠w.heap.size:=fun j hj e=>by have:=HH.out.lt j hj;omega
   have h1:=HC.out.beside tr hnF
   have hkb:=(h1.kept _ (getI_mem s1)).1
   have ht1:Turn F w w':=HT.out.more tr (fun j hj=>.inr (Nat.le_of_eq hj.symm))
   have cd:=Drop1_any w' kx kk hkb
   have hln0:w'.rangeLeft mb w.heap.size<wr.rangeLeft mb w.heap.size:=by rw[hri'.len,HR.out.len,hpm.length_eq];simp
   have CD:=Lib.hid cd;have HLN:=Lib.hid hln0
   clear cd hln0
   cases hdr:kk.dirty with
   | false =>
    have e4:=s4 hdr
    rw[e4] at h1 hri'
    rw[hdr] at CD
    have H1:=Lib.hid h1;have HR1:=Lib.hid hri';have HT1:=Lib.hid ht1
    clear h1 hri' ht1 hkb tr hg hz hkv hpm s1 s2 s3 s4 hx hgk e4 hdr
    go_wp2_with fail
    refine CD.out.mono ?_
    rintro e w3 ⟨rfl,rfl⟩
    go_wp2_with fail
    go_roundw
    case rel=>exact⟨left',HR1,H1,HT1⟩
    case measure=>exact HLN.out
   | true =>
    rw[hdr] at CD
    have e3:=s3 hdr
    have hkm:kx∈(mapOf (dropS m left)).map (·.1):=List.mem_map.2 ⟨_,hkv,rfl⟩
    obtain⟨w4,hdel,hr4,hg4,hz4⟩:=RangeI.delete (P:=Tryz.prog) hri' s2 hkm 140 3 141 Tryz.underlying140 Tryz.underlying3
    have hde:delI kx (mapOf (dropS m left))=mapOf (dropS m left'):=by
     rw[←e3];unfold mapOf;rw[delI_map (fun k:KeptL=>ptrV k.p)]
    rw[hde] at hr4
    have t4:=CacG.turn_of_map hg4
    have hns:((dropS m left).map (·.1)).Nodup:=((dropS_sub m left).map _).nodup HK.out
    have h4:=h1.gone (i:=kx) hns (by rw[hde];exact hr4.map) t4
    rw[e3] at h4
    have ht4:Turn F w w4:=ht1.trans (t4.mono (fun j hj=>by subst hj;exact HH.out.fm))
    have hln:w4.rangeLeft mb w.heap.size<wr.rangeLeft mb w.heap.size:=by rw[hr4.len];have:=HLN.out;rw[hri'.len] at this;exact this
    have H4:=Lib.hid h4;have HR4:=Lib.hid hr4;have HT4:=Lib.hid ht4;have HL:=Lib.hid hln
    clear h4 hr4 ht4 hln hns t4 hg4 hz4 hde hkm e3 h1 hri' ht1 hkb tr hg hz hkv hpm s1 s2 s3 s4 hx hgk hdr
    go_wp2_with fail
    refine CD.out.mono ?_
    rintro e w3 ⟨rfl,rfl⟩
    go_wp2_with fail
    go_roundw
    case rel=>exact⟨left',HR4,H4,HT4⟩
    case measure=>exact HL.out
theorem Drop_any(w:World)(F:Nat→Prop)(cb p most clock:Nat)(ms:Int)(mb:Nat)(m:KeptLs)(h:CacG w F cb p most clock ms mb m)(hk:(m.map (·.1)).Nodup):
  Calls Tryz.prog 104 #[ptrV cb] w fun e w'=>e=.returned (.tuple #[])∧CacG w' F cb p most clock ms mb (m.filter fun x => !x.2.dirty)∧Turn F w w':=by
 have c4:=h.box.cell 4 (.map (some mb)) rfl
 have hdf:=DeleteFunc_any w F cb p most clock ms mb m h hk
 have HD:=Lib.hid hdf
 clear hdf h hk
 go_enter Tryz.func104,Tryz.ntmps104
 go_wp2_with fail
 refine HD.out.mono ?_
 rintro e w1 ⟨rfl,h1,t1⟩
 have H1:=Lib.hid h1;have T1:=Lib.hid t1
 clear h1 t1
 go_wp2_with fail
 go_end0
 exact⟨rfl,H1.out,T1.out⟩
def scells(p cb tb:Nat)(σ:StL):Array Value:=#[ptrV p,ptrV cb,strV σ.map1,strV σ.was,.bool σ.open_,.map (some tb)]
structure StG (w:World) (FJ FC:Nat→Prop) (sb b p cb tb most clock:Nat) (ms:Int) (mb:Nat) (m:KeptLs) (ti:List (Nat×Value)) (σ:StL):Prop where
 box:Blk w sb 86 (scells p cb tb σ)
 tm:MapI w tb ti
 jr:JrnAt w FJ p b σ.j
 ca:CacG w FC cb p most clock ms mb m
 apart:∀k,FJ k→¬FC k
 sF:¬FJ sb∧¬FC sb
 tF:¬FJ tb∧¬FC tb
 ok:σ.dead=false→CacOk σ.n most clock σ.tx σ.j.d.get m
 keys:∀k,k∈ti.map (·.1)↔k∈σ.tx.map (·.1)
 ints:∀x∈ti,∃c:Int,x.2=.int .i64 c
structure StNum (σ:StL):Prop where
 big:128≤σ.n
 max:σ.n≤4096
 map:σ.map1.length=256*partsN σ.n
 num:σ.dead=false→JNum σ.j∧σ.j.used≤σ.j.s.log∧σ.j.home=62∧(∀w∈σ.tx,63≤w.1∧w.1<σ.n∧w.2.length=256)∧σ.tx.length≤48∧Rise σ.tx∧∀i,i<σ.n→(σ.j.d.get i).length=256
theorem JInv.num{lg K:Nat}{j:JL}{fr:List (List WrL)}{C:Nat→Bytes}(h:JInv lg K j fr C)(hl:lg≤1000)(hK:K<18446744073709551616):JNum j:=by
 have h1:=h.hrec.hleast;have h2:=h.hlog;have h3:=h.hrec.hplace;have h4:=h.hrec.hchain.used;have h5:=h.hused
 have h6:=h.he;have h7:=h.hnext;have h8:=h.hnextK;have h9:=h.hrec.hk;have h10:=h.plen
 exact⟨by omega,by omega,by omega,by omega,by omega,by omega,by omega,h9,h.ok,fun _=>by omega⟩
theorem StInv.num{K:Nat}{σ:StL}{fr:List (List WrL)}{C:Nat→Bytes}(h:StInv K σ fr C)(hK:K<18446744073709551616):StNum σ:=by
 refine⟨h.big,h.max,h.map.len,fun _=>⟨h.inv.num (by omega) hK,?_,?_,h.txok,h.short,h.rise,fun i hi=>DevL.get_len h.inv.ok i hi⟩⟩
 ·have:=h.inv.hrec.hchain.used;rw[h.inv.hused];omega
 ·unfold JL.home;rw[h.inv.hlog]
theorem Blk.c6{w:World}{k:Nat}{t:TypeId}{a0 a1 a2 a3 a4 a5:Value}(h:Blk w k t #[a0,a1,a2,a3,a4,a5]):
  w.cell? ⟨k,0,none⟩=some a0∧w.cell? ⟨k,1,none⟩=some a1∧w.cell? ⟨k,2,none⟩=some a2∧w.cell? ⟨k,3,none⟩=some a3∧w.cell? ⟨k,4,none⟩=some a4∧w.cell? ⟨k,5,none⟩=some a5 :=
 ⟨h.cell 0 _ rfl,h.cell 1 _ rfl,h.cell 2 _ rfl,h.cell 3 _ rfl,h.cell 4 _ rfl,h.cell 5 _ rfl⟩
theorem StG.keep{w w':World}{FJ FC:Nat→Prop}{sb b p cb tb most clock:Nat}{ms:Int}{mb:Nat}{m:KeptLs}{ti:List (Nat×Value)}{σ:StL}(h:StG w FJ FC sb b p cb tb most clock ms mb m ti σ)(q:Q w w'):StG w' FJ FC sb b p cb tb most clock ms mb m ti σ :=
 ⟨h.box.stays q,h.tm.same (q.block _ h.tm.lt),h.jr.keep q,h.ca.keep q,h.apart,h.sF,h.tF,h.ok,h.keys,h.ints⟩
def StAt(w:World)(F:Nat→Prop)(sb b:Nat)(σ:StL)(K:Nat):Prop :=
 ∃FJ FC p cb tb most clock ms mb m ti,StG w FJ FC sb b p cb tb most clock ms mb m ti σ∧(∀k,FJ k∨FC k∨k=sb∨k=tb→F k)∧(∀k,F k→k<w.heap.size)∧clock≤K
theorem StAt.keep{w w':World}{F:Nat→Prop}{sb b:Nat}{σ:StL}{K:Nat}(h:StAt w F sb b σ K)(q:Q w w'):StAt w' F sb b σ K:=by
 obtain⟨FJ,FC,p,cb,tb,most,clock,ms,mb,m,ti,h1,h2,h3,h4⟩:=h
 exact⟨FJ,FC,p,cb,tb,most,clock,ms,mb,m,ti,h1.keep q,h2,fun k hk=>Nat.lt_of_lt_of_le (h3 k hk) q.size,h4⟩
theorem StAt.mono{w:World}{F G:Nat→Prop}{sb b:Nat}{σ:StL}{K K':Nat}(h:StAt w F sb b σ K)(k:∀i,F i→G i)(hl:∀i,G i→i<w.heap.size)(hK:K≤K'):StAt w G sb b σ K':=by
 obtain⟨FJ,FC,p,cb,tb,most,clock,ms,mb,m,ti,h1,h2,h3,h4⟩:=h
 exact⟨FJ,FC,p,cb,tb,most,clock,ms,mb,m,ti,h1,fun i hi=>k i (h2 i hi),hl,Nat.le_trans h4 hK⟩
theorem StAt.lt{w:World}{F:Nat→Prop}{sb b:Nat}{σ:StL}{K:Nat}(h:StAt w F sb b σ K):∀k,F k→k<w.heap.size:=by
 obtain⟨FJ,FC,p,cb,tb,most,clock,ms,mb,m,ti,h1,h2,h3,h4⟩:=h
 exact h3
theorem StAt.quiet{w w':World}{F:Nat→Prop}{sb b:Nat}{σ:StL}{K K':Nat}(h:StAt w F sb b σ K)(q:Q w w')(hK:K≤K'):StAt w' (grow F w w') sb b σ K'∧Turn F w w' :=
 ⟨(h.keep q).mono (fun k hk=>.inl hk) (fun k hk=>hk.elim (fun hk=>Nat.lt_of_lt_of_le (h.lt k hk) q.size) (fun hk=>hk.2)) hK,Turn.of_q q⟩
end
end Go.Proofs.YthcpkgfieoneeaaGreatDoor
