/- Joined texts of one proof: what is needed of WStoD0, WStoD, WStoE, WStoF, WStoG, WStoH, WStoI, WStoJ. -/
import Derived.Test.YthcpkgfieoneeaaGreatDoorJPWRef7a
import Derived.Shelf.SlMaps.Clone
import Derived.Shelf.Lay
import Derived.Ground.SlmcProg
import Derived.Test.YthcpkgfieoneeaaGreatDoorJPBitC
import Derived.Test.YthcpkgfieoneeaaGreatDoorJPWJrnJ
import Derived.Test.YthcpkgfieoneeaaGreatDoorJPJrn4
import Derived.OwnWalk
import Derived.WalkLawsBesides
import Derived.WalkSpells
import Derived.Defers
set_option linter.unusedSimpArgs false
set_option linter.unusedVariables false
set_option linter.unnecessarySimpa false
set_option maxRecDepth 100000
set_option maxHeartbeats 16000000
namespace Go.Proofs.YthcpkgfieoneeaaGreatDoor
section
open Go.Shelf Go.RowKit Go.Lib
open Go.RowKit
def Tryz.cloneI_ren : Go.Shelf.Ren := ⟨fun | 5 => 100 | 7 => 141 | n => n, fun | 23 => 84 | 25 => 3 | 3 => 3 | 4 => 4 | 20 => 20 | n => n, fun | n => n⟩
theorem Tryz.cloneI : Go.Proofs.SlLaysW.n5 Tryz.prog Tryz.cloneI_ren := {
  mixed := by kernel_rfl
  f5 := ⟨Tryz.f100.name, by decide, Tryz.func100.trans (congrArg some (by kernel_rfl))⟩
  f7 := Tryz.func141.trans (congrArg some (by kernel_rfl))
  t4 := Tryz.underlying4
  a4 := Tryz.isAgg4
  z4 := Tryz.sizeOf4
  v4 := Tryz.zeroValue4
  t20 := Tryz.underlying20
  a20 := Tryz.isAgg20
  z20 := Tryz.sizeOf20
  v20 := Tryz.zeroValue20
  t23 := Tryz.underlying84
  a23 := Tryz.isAgg84
  z23 := Tryz.sizeOf84
  v23 := Tryz.zeroValue84 }
theorem CloneI_any(w:World)(b:Nat)(m:List (Nat×Value))(h:MapI w b m):
  Calls Tryz.prog 100 #[.map (some b)] w fun e w'=>e=.returned (.map (some w.heap.size))∧MapI w' w.heap.size m∧Q w w'∧w.heap.size<w'.heap.size:=by
 obtain⟨es,clock,hb,hs,hk⟩:=h
 refine(AnyW.maps_Clone Tryz.cloneI b es clock w hb).mono ?_
 rintro e w' ⟨rfl,rfl⟩
 exact⟨rfl,⟨es,clock,(MapKept.heap_alloc w _).1,hs,hk⟩,Q.alloc _ _,by simp⟩
theorem with_len(l:List WrL)(w:WrL):l.length≤(withL l w).length:=by
 induction l with
 | nil=>simp[withL]
 | cons x l ih =>
  unfold withL
  split
  ·simp only[List.length_cons];omega
  ·split<;>simp
theorem touch_len(tx l:List WrL):tx.length≤(touchL tx l).length:=by
 unfold touchL
 induction l generalizing tx with
 | nil=>exact Nat.le_refl _
 | cons w l ih=>exact Nat.le_trans (with_len tx w) (ih _)
theorem touch_app(tx a b:List WrL):touchL tx (a++b)=touchL (touchL tx a) b:=by unfold touchL;rw[List.foldl_append]
theorem touch_take(tx l:List WrL)(k:Nat)(h:k<l.length):touchL tx (l.take (k+1))=withL (touchL tx (l.take k)) l[k]∧(touchL tx (l.take (k+1))).length≤(touchL tx l).length:=by
 constructor
 ·rw[List.take_succ_eq_append_getElem h,touch_app];rfl
 ·have:=touch_len (touchL tx (l.take (k+1))) (l.drop (k+1))
  rw[←touch_app,List.take_append_drop] at this;exact this
theorem with_keys(l:List WrL)(w:WrL)(k:Nat):k∈(withL l w).map (·.1)↔k=w.1∨k∈l.map (·.1):=by
 induction l with
 | nil=>simp[withL]
 | cons x l ih =>
  unfold withL
  split
  ·rw[List.map_cons,List.mem_cons,ih,List.map_cons,List.mem_cons];grind
  ·split
   ·rename_i h;simp only[List.map_cons,List.mem_cons,h];grind
   ·simp only[List.map_cons,List.mem_cons]
theorem rise_nodup{l:List WrL}(h:Rise l):(l.map (·.1)).Nodup:=List.pairwise_map.2 (h.imp fun hx=>Nat.ne_of_lt hx)
theorem keys_len{a b:List Nat}(ha:a.Nodup)(hb:b.Nodup)(h:∀k,k∈a↔k∈b):a.length=b.length:=((List.perm_ext_iff_of_nodup ha hb).2 h).length_eq
theorem ints_put{ti:List (Nat×Value)}(h:∀x∈ti,∃c:Int,x.2=.int .i64 c)(k:Nat)(c:Int):∀x∈putI k (.int .i64 c) ti,∃c:Int,x.2=.int .i64 c:=fun x hx=>by
 rcases putI_mem hx with rfl|⟨hx,_⟩
 ·exact⟨c,rfl⟩
 ·exact h x hx
theorem ints_get{ti:List (Nat×Value)}(h:∀x∈ti,∃c:Int,x.2=.int .i64 c)(k:Nat):∃c:Int,(getI k ti).getD (.int .i64 0)=.int .i64 c:=by
 cases hg:getI k ti with
 | none=>exact⟨0,rfl⟩
 | some v=>exact h _ (getI_mem hg)
theorem run_intElem(w:World):(zeroValue 3).run Tryz.prog w=.ok (.int .i64 0) w:=by kernel_rfl
end
section
open Go.RowKit
variable {w w':World} {FJ FC F:Nat→Prop} {sb b p cb tb most clock clock':Nat} {ms ms':Int} {mb:Nat} {m m':KeptLs} {ti ti':List (Nat×Value)} {σ σ':StL} {K:Nat}
theorem Q.turned{A B C:World}{own:Nat→Prop}(q:Q A B)(t:Turn own B C)(ho:∀k,own k→A.heap.size≤k):Q A C :=
 ⟨t.os.trans q.os,t.tape.trans q.tape,t.output.trans q.output,Nat.le_trans q.size t.size,fun k hk=>(t.block k (Nat.lt_of_lt_of_le hk q.size) (fun e=>by have:=ho k e;omega)).trans (q.block k hk)⟩
theorem StG.retold(h:StG w FJ FC sb b p cb tb most clock ms mb m ti σ){w1:World}{ab:Nat}(q:Q w w1)(hab:w.heap.size≤ab)(hm1:MapI w1 ab ti'):
  Blk (w1.setCell ⟨sb,5,none⟩ (.map (some ab))) sb 86 (scells p cb ab σ)∧MapI (w1.setCell ⟨sb,5,none⟩ (.map (some ab))) ab ti'∧JrnAt (w1.setCell ⟨sb,5,none⟩ (.map (some ab))) FJ p b σ.j∧CacG (w1.setCell ⟨sb,5,none⟩ (.map (some ab))) FC cb p most clock ms mb m∧Turn (fun k=>k=sb) w (w1.setCell ⟨sb,5,none⟩ (.map (some ab))):=by
 have h1:=h.keep q
 have t:Turn (fun k=>k=sb) w1 (w1.setCell ⟨sb,5,none⟩ (.map (some ab))):=Turn.setCell (a:=⟨sb,5,none⟩) (Turn.refl (fun k=>k=sb) w1) (.inl rfl) _
 have hsl:=h.box.lt
 exact⟨h1.box.set 5 _,hm1.same (t.block _ hm1.lt (by omega)),h1.jr.beside t (fun k hk e=>h.sF.1 (e▸hk)),h1.ca.beside t (fun k hk e=>h.sF.2 (e▸hk)),(Turn.of_q q).trans t⟩
theorem StG.touched(h:StG w FJ FC sb b p cb tb most clock ms mb m ti σ){w2 w3:World}{ab:Nat}(hab:w.heap.size≤ab)(hb2:Blk w2 sb 86 (scells p cb ab σ))(hm2:MapI w2 ab ti')(hj2:JrnAt w2 FJ p b σ.j)(t2:Turn (fun k=>k=sb) w w2)
  (t3:Turn FC w2 w3) (hc:CacG w3 (grow FC w2 w3) cb p most clock' ms' mb m') (tx':List WrL) (ok':σ.dead=false→CacOk σ.n most clock' tx' σ.j.d.get m') (hk:∀k,k∈ti'.map (·.1)↔k∈tx'.map (·.1)) (hi:∀x∈ti',∃c:Int,x.2=.int .i64 c)
  (hF:∀k,FJ k∨FC k∨k=sb∨k=tb→F k) (hlt:∀k,F k→k<w.heap.size) (hK:clock'≤K):StAt w3 (grow F w w3) sb b { σ with tx:=tx' } K∧Turn F w w3:=by
 have h2:=t2.size;have h3:=t3.size
 have hal:=hm2.lt
 have hcl:∀k,FC k→k<w.heap.size:=fun k hk=>hlt k (hF k (.inr (.inl hk)))
 have hjl:∀k,FJ k→k<w.heap.size:=fun k hk=>hlt k (hF k (.inl hk))
 have hsl:=h.box.lt
 refine⟨⟨FJ,_,_,_,_,_,_,_,_,_,_,⟨t3.blk hb2 h.sF.2,hm2.same (t3.block _ hal (fun e=>by have:=hcl _ e;omega)),hj2.beside t3 (fun k hk e=>h.apart k hk e),hc,fun k hk hg=>hg.elim (fun hg=>h.apart k hk hg) (fun hg=>by have:=hjl k hk;omega),⟨h.sF.1,fun hg=>hg.elim h.sF.2 (fun hg=>by omega)⟩,⟨fun e=>by have:=hjl _ e;omega,fun hg=>hg.elim (fun e=>by have:=hcl _ e;omega) (fun hg=>by omega)⟩,ok',hk,hi⟩,fun k hk=>?_,fun k hk=>hk.elim (fun hk=>by have:=hlt k hk;omega) (fun hk=>hk.2),hK⟩,?_⟩
 ·rcases hk with hk|hk|hk|hk
  ·exact .inl (hF k (.inl hk))
  ·exact hk.elim (fun hk=>.inl (hF k (.inr (.inl hk)))) (fun hk=>.inr ⟨by omega,hk.2⟩)
  ·exact .inl (hF k (.inr (.inr (.inl hk))))
  ·subst hk;exact .inr ⟨hab,by omega⟩
 ·exact(t2.mono (fun k hk=>hF k (.inr (.inr (.inl hk))))).trans (t3.mono (fun k hk=>hF k (.inr (.inl hk))))
theorem StL.touch_many{σ:StL}{l:List WrL}(h:48<(touchL σ.tx l).length):σ.touch l=(σ,6):=by unfold StL.touch;rw[if_pos h]
theorem StL.touch_few{σ:StL}{l:List WrL}(h:¬48<(touchL σ.tx l).length):σ.touch l=({ σ with tx:=touchL σ.tx l },0):=by unfold StL.touch;rw[if_neg h]
theorem STouch_any(w:World)(F:Nat→Prop)(sb b:Nat)(σ:StL)(K:Nat)(l:List WrL)(lv:Value)(h:StAt w F sb b σ K)(hn:StNum σ)(hd:σ.dead=false)(hl:SlO w F lv l.length 2 (wrVs l))(hok:∀x∈l,(63≤x.1∧x.1<σ.n)∧x.2.length=256)(hll:l.length≤1000)(hK:K+l.length≤1000000000000000000):
  Calls Tryz.prog 62 #[ptrV sb,lv] w fun e w'=>e=.returned (.int .i64 (σ.touch l).2)∧StAt w' (grow F w w') sb b (σ.touch l).1 (K+l.length)∧Turn F w w':=by
 have hquiet:=fun (W:World) (q:Q w W)=>h.quiet q (Nat.le_add_right K l.length)
 obtain⟨FJ,FC,p,cb,tb,most,clock,ms,mb,m,ti,hg,hF,hlt,hcl⟩:=h
 obtain⟨n1,n2,n3,n4,n5,n6⟩:=hn.num hd
 have hnn:=hn.max
 obtain⟨la,lc,rfl,hlc⟩:=hl.value
 have hcell:∀k (hk:k<l.length),∃lb lo,la=some ⟨lb,lo,none⟩∧lb<w.heap.size∧¬F lb∧w.cell? ⟨lb,lo+k*2,none⟩=some (.int .i64 (l[k].1:Nat))∧w.cell? ⟨lb,lo+k*2+1,none⟩=some (strV l[k].2):=fun k hk=>by
  obtain⟨lb,lo,h1,h2,h3,h4⟩:=hlc (by omega)
  exact⟨lb,lo,h1,h2,h3,h4 _ _ (wrVs_at l k hk).1,by have:=h4 _ _ (wrVs_at l k hk).2;rwa [←Nat.add_assoc] at this⟩
 obtain⟨c0,c1,c2,c3,c4,c5⟩:=Blk.c6 hg.box
 have hcn:=CloneI_any w tb ti hg.tm
 have HC:=Lib.hid hcell;have HCN:=Lib.hid hcn;have HG:=Lib.hid hg;have HF:=Lib.hid hF;have HLT:=Lib.hid hlt;have HQT:=Lib.hid hquiet;have HO:=Lib.hid hok;have HD:=Lib.hid hd;have HN:=Lib.hid (And.intro n4 n6)
 clear hcell hcn hg hF hlt hquiet hok hlc hl hd n1 n2 n3 n4 n5 n6 hn
 go_enter Tryz.func62,Tryz.ntmps62
 go_wp2_with fail
 refine HCN.out.mono ?_
 rintro e w1 ⟨rfl,hm1,q1,hz1⟩
 have hab:w.heap.size≤w.heap.size:=Nat.le_refl _
 generalize hgab:w.heap.size=ab at hm1 hz1 hab ⊢
 replace hab:w.heap.size≤ab:=Nat.le_of_eq hgab
 have HM1:=Lib.hid hm1;have HQ1:=Lib.hid q1;have HAB:=Lib.hid hab
 clear hm1 q1 hab hgab
 go_wp2_with fail
 go_loopw [18] (fun v wr=>∃k:Nat,v=.int .i64 (k:Nat)∧k≤l.length∧Hid (Q w wr)∧Hid (∃m1,MapI wr ab m1∧(∀y,y∈m1.map (·.1)↔y∈(touchL σ.tx (l.take k)).map (·.1))∧∀x∈m1,∃c:Int,x.2=.int .i64 c)) (fun v _=>l.length-(intOf v).toNat)
 case atStart=>exact⟨0,rfl,Nat.zero_le _,HQ1,Lib.hid ⟨ti,HM1.out,HG.out.keys,HG.out.ints⟩⟩
 case round =>
  obtain⟨k,rfl,hk,HQ,HR⟩:=hrel
  obtain⟨m1,hm,hks,hin⟩:=HR.out
  clear HR
  by_cases hlt:k<l.length
  ·have hki:(k:Int)<(l.length:Int):=by omega
   obtain⟨lb,lo,rfl,-,-,x1,x2⟩:=HC.out k hlt
   have y1:=cellQ HQ.out x1;have y2:=cellQ HQ.out x2
   have htk:=(touch_take σ.tx l k hlt).1
   obtain⟨c,hc⟩:=ints_get hin l[k].1
   have hma:=fun (o:Obj)=>hm.same (w':=wr.alloc o) (Below.heap_alloc wr o _ hm.lt)
   have HTK:=Lib.hid htk;have HMM:=Lib.hid hma;have HKS:=Lib.hid hks;have HIN:=Lib.hid hin;have HCC:=Lib.hid hc
   clear htk hm hks hin hc x1 x2 hma
   generalize l[k]=lk at *
   obtain⟨i,s⟩:=lk
   simp only[] at y1 y2 HTK HCC
   go_wp2_with (first|(at_lookup;refine wpList_lookup_int _ (by rfl) _ _ 84 false (by rfl) 3 3 Tryz.underlying84 Tryz.underlying3 (.int .i64 0) (run_intElem _) ab _ (HMM.out _) i (by rfl) (by rfl) ?_;rw[HCC.out])|(at_mapUpdate;refine wpList_update_int _ (by rfl) _ _ _ 84 (by rfl) 3 3 Tryz.underlying84 Tryz.underlying3 ab _ (HMM.out _) i (.int .i64 (wrap64 (c+1))) (by rfl) (by rfl) (by rfl) ?_))
   intro w4 hm4 hg4 hz4
   have q4:Q w w4:=(HQ.out.trans (Q.alloc wr _)).turned (CacG.turn_of_map hg4) (fun x hx=>by rw[hx];exact HAB.out)
   have hk4:∀y,y∈(putI i (.int .i64 (wrap64 (c+1))) m1).map (·.1)↔y∈(touchL σ.tx (l.take (k+1))).map (·.1):=fun y=>by rw[putI_keys,HTK.out,with_keys,HKS.out]
   have HE:=Lib.hid q4
   have HE2:Hid (∃m1,MapI w4 ab m1∧(∀y,y∈m1.map (·.1)↔y∈(touchL σ.tx (l.take (k+1))).map (·.1))∧∀x∈m1,∃c:Int,x.2=.int .i64 c):=Lib.hid ⟨_,hm4,hk4,ints_put HIN.out _ _⟩
   clear hm4 hg4 hz4 q4 hk4 y1 y2
   go_wp2_with fail
   go_roundw
   case rel=>exact⟨k+1,by go_num,by omega,HE,HE2⟩
   case measure=>simp[intOf];omega
  ·have hki:¬(k:Int)<(l.length:Int):=by omega
   obtain rfl:k=l.length:=by omega
   rw[List.take_length] at hks
   have hlen:m1.length=(touchL σ.tx l).length:=by
    have:=keys_len hm.nodup (rise_nodup (touch_rise l σ.tx HN.out.2.1)) hks
    simpa using this
   have hln:=run_len_int (P:=Tryz.prog) hm 84 3 3 3 Tryz.underlying84
   by_cases hs:48<(touchL σ.tx l).length
   ·have hs1:(48:Int)<(m1.length:Int):=by omega
    have HE:=Lib.hid (HQT.out wr HQ.out)
    have HS:=Lib.hid hs;have HMM:=Lib.hid hm
    clear hm hks hin hlen hs
    go_wp2_with fail
    go_ret
    rw[StL.touch_many HS.out]
    exact⟨rfl,HE.out.1,HE.out.2⟩
   ·have hs1:¬(48:Int)<(m1.length:Int):=by omega
    obtain⟨b2,mm2,j2,ca2,t2⟩:=HG.out.retold (ti':=m1) HQ.out HAB.out hm
    obtain⟨d0,d1,d2,d3,d4,d5⟩:=Blk.c6 (HG.out.keep HQ.out).box
    have f5:=(HG.out.keep HQ.out).box.frozen 5
    have HJ2:=Lib.hid j2;have HB2:=Lib.hid b2;have HM2:=Lib.hid mm2;have HCA2:=Lib.hid ca2;have HT2:=Lib.hid t2;have HKS:=Lib.hid hks;have HIN:=Lib.hid hin;have HS:=Lib.hid hs
    have hz2:wr.heap.size=(wr.setCell ⟨sb,5,none⟩ (.map (some ab))).heap.size:=(setCell_size _ _ _).symm
    have hz3:w.heap.size≤wr.heap.size:=HQ.out.size
    have HZ2:=Lib.hid hz2;have HZ3:=Lib.hid hz3
    clear hm hks hin hlen hs b2 mm2 j2 ca2 t2 hz2 hz3
    go_upto_region 10 with fail
    generalize (wr.setCell ⟨sb,5,none⟩ (.map (some ab)))=w2 at *
    clear hln d0 d1 d2 d3 d4 d5 f5 hk hlt
    go_wp2_with fail
    go_loopw [37] (fun v wr=>∃k:Nat,v=.int .i64 (k:Nat)∧k≤l.length∧Hid (Turn FC w2 wr)∧Hid (∃mk,CacG wr (grow FC w2 wr) cb p most (clock+k) ms mb mk∧CacOk σ.n most (clock+k) (touchL σ.tx (l.take k)) σ.j.d.get mk)) (fun v _=>l.length-(intOf v).toNat)
    case atStart=>exact⟨0,rfl,Nat.zero_le _,Lib.hid (Turn.refl _ _),Lib.hid ⟨m,HCA2.out.mono (fun x hx=>.inl hx) (fun x hx=>hx.elim (fun hx=>HCA2.out.lt x hx) (fun hx=>hx.2)),HG.out.ok HD.out⟩⟩
    case round =>
     obtain⟨k,rfl,hk,HT,HR⟩:=hrel
     obtain⟨mk,hca,hco⟩:=HR.out
     clear HR
     by_cases hlt:k<l.length
     ·have hki2:(k:Int)<(l.length:Int):=by omega
      obtain⟨lb,lo,rfl,hlb,hlF,x1,x2⟩:=HC.out k hlt
      have hnF:¬FC lb:=fun e=>hlF (HF.out lb (.inr (.inl e)))
      have hns:¬(fun j=>j=sb) lb:=fun e=>hlF (HF.out lb (.inr (.inr (.inl e))))
      have y1:=HT.out.cell (HT2.out.cell x1 hns) hnF
      have y2:=HT.out.cell (HT2.out.cell x2 hns) hnF
      obtain⟨htk,htl⟩:=touch_take σ.tx l k hlt
      obtain⟨hi,hs⟩:=HO.out _ (List.getElem_mem hlt)
      have z1:=HT.out.cell ((HB2.out).cell 1 (ptrV cb) rfl) HG.out.sF.2
      have hcp:=fun (W:World) (q:Q wr W)=>CPut_any W _ cb p σ.n most (clock+k) ms mb mk _ σ.j.d.get l[k].1 l[k].2 (hca.keep q) hco hi (by omega) hs (by rw[←htk];have:=HS.out;omega) (Room_any W _ cb p σ.n most (clock+k) ms mb mk _ σ.j.d.get (hca.keep q) hco (by omega))
      rw[←htk] at hcp
      have hsc:¬grow FC w2 wr sb:=fun hg=>hg.elim HG.out.sF.2 (fun hg=>by have:=HG.out.box.lt;have:=HT2.out.size;omega)
      have hsw:¬grow FC w2 wr wr.heap.size:=fun hg=>hg.elim (fun hg=>by have:=HG.out.ca.lt _ hg;have:=HT2.out.size;have:=HT.out.size;omega) (fun hg=>by omega)
      have HCP:=Lib.hid hcp;have HSC:=Lib.hid hsc;have HSW:=Lib.hid hsw
      clear hcp hsc hsw hco hca x1 x2 htk htl hi hs hlb hlF hnF hns
      generalize l[k]=lk at *
      obtain⟨i,s⟩:=lk
      simp only[] at y1 y2 HCP
      generalize hE:clock+k+1=ck1 at *
      have KK:=Lib.hid (Q.refl wr)
      go_upto_region 13 with fail
      have v0:(wr.alloc (.cells #[.int .i64 (i:Nat),strV s] 102)).cell? ⟨wr.heap.size,0,none⟩=some (.int .i64 (i:Nat)):=(Blk.new wr _ _).cell 0 _ rfl
      have v1:(wr.alloc (.cells #[.int .i64 (i:Nat),strV s] 102)).cell? ⟨wr.heap.size,1,none⟩=some (strV s):=(Blk.new wr _ _).cell 1 _ rfl
      have v2:(wr.alloc (.cells #[.int .i64 (i:Nat),strV s] 102)).cell? ⟨sb,1,none⟩=some (ptrV cb):=cellQ (Q.alloc _ _) z1
      have HEQ:=Lib.hid hE
      clear hE
      go_region_held3 (fun w'=>w'.cell? ⟨wr.heap.size,0,none⟩=some (.int .i64 (i:Nat))∧w'.cell? ⟨wr.heap.size,1,none⟩=some (strV s)∧w'.cell? ⟨sb,1,none⟩=some (ptrV cb))
       (first|exact g0|exact⟨v0,v1,v2⟩|exact three (by repeat (first|with_reducible exact Q.refl _|with_reducible apply Qs.dr)) v0 v1 v2)
       (first|(go_at_call 101;with_reducible refine(HCP.out _ (by repeat (first|with_reducible exact KK.out|with_reducible apply Qs.dr|with_reducible apply Qs.al))).mono ?_;rintro e w3 ⟨rfl,t3,m3,h3,o3⟩;have g0:=And.intro (t3.cell (cellQ (Q.drew _) v0) HSW.out) (And.intro (t3.cell (cellQ (Q.drew _) v1) HSW.out) (t3.cell (cellQ (Q.drew _) v2) HSC.out));have T3:=Lib.hid t3;have H3:=Lib.hid (And.intro h3 o3);clear t3 h3 o3))
      all_goals
       have tq:Turn (grow FC w2 wr) wr w3:=(Turn.of_q (Qs.dr (Qs.al (Q.refl wr) _))).trans T3.out
       have tt:Turn FC w2 w3:=HT.out.step tq
       have hm3:=H3.out.1.mono (G:=grow FC w2 w3) (fun x hx=>by
        have hz:=HT.out.size;have hz':=T3.out.size;have hz4:=tq.size
        simp only[World.size_alloc,World.size_drew] at hz'
        rcases hx with (hx|hx)|hx
        ·exact .inl hx
        ·exact .inr ⟨hx.1,by omega⟩
        ·simp only[World.size_alloc,World.size_drew] at hx
         exact .inr ⟨by omega,hx.2⟩) (fun x hx=>hx.elim (fun hx=>by have:=HG.out.ca.lt x hx;have:=HT2.out.size;have:=tt.size;omega) (fun hx=>hx.2))
       have hnew:∃mk,CacG w3 (grow FC w2 w3) cb p most (clock+(k+1)) ms mb mk∧CacOk σ.n most (clock+(k+1)) (touchL σ.tx (l.take (k+1))) σ.j.d.get mk:=⟨m3,by rw[show clock+(k+1)=ck1 by have:=HEQ.out;omega];exact⟨hm3,H3.out.2⟩⟩
       have HN3:=Lib.hid hnew;have HT3:=Lib.hid tt
       clear tq tt hm3 hnew g0 v0 v1 v2 T3 H3
       go_wp2_with fail
       go_roundw
       case rel=>exact⟨k+1,by go_num,by omega,HT3,HN3⟩
       case measure=>simp[intOf];omega
     ·have hki2:¬(k:Int)<(l.length:Int):=by omega
      obtain rfl:k=l.length:=by omega
      rw[List.take_length] at hco
      have hend:=HG.out.touched HAB.out HB2.out HM2.out HJ2.out HT2.out HT.out hca _ (fun _=>hco) HKS.out HIN.out HF.out HLT.out (K:=K+l.length) (by omega)
      have HE:=Lib.hid hend;have HCO:=Lib.hid hca
      clear hend hca hco
      go_wp2_with fail
      go_ret
      rw[StL.touch_few HS.out]
      exact⟨rfl,HE.out.1,HE.out.2⟩
end
section
open Go.RowKit
theorem StAt.sb{w:World}{F:Nat→Prop}{sb b:Nat}{σ:StL}{K:Nat}(h:StAt w F sb b σ K):F sb:=by
 obtain⟨FJ,FC,p,cb,tb,most,clock,ms,mb,m,ti,hg,hF,hlt,hcl⟩:=h
 exact hF sb (.inr (.inr (.inl rfl)))
theorem SWrite_any(w:World)(F:Nat→Prop)(sb b:Nat)(σ:StL)(K:Nat)(i:Int)(s:Bytes)(h:StAt w F sb b σ K)(hn:StNum σ)(hK:K+1≤1000000000000000000)(hs:s.length≤1000000000000):
  Calls Tryz.prog 22 #[ptrV sb,.int .i64 i,strV s] w fun e w'=>e=.returned (.int .i64 (σ.write i s).2)∧StAt w' (grow F w w') sb b (σ.write i s).1 (K+1)∧Turn F w w':=by
 have hsame:=(h.quiet (Q.refl w) (Nat.le_succ K))
 have hat:=h
 obtain⟨FJ,FC,p,cb,tb,most,clock,ms,mb,m,ti,hg,hF,hlt,hcl⟩:=h
 have hst:=SState_any true hg
 have hda:=SData_any i hg hn.max
 obtain⟨c0,c1,c2,c3,c4,c5⟩:=Blk.c6 hg.box
 have hml:=hn.map
 have hmx:=hn.max
 have hpp:256*partsN σ.n≤1000000:=by unfold partsN;omega
 by_cases hz:σ.state true=0
 ·obtain⟨hdd,hoo⟩:=state_open hz
  cases hdt:σ.isData i with
  | false =>
   have hr:σ.write i s=(σ,2):=by unfold StL.write;rw[if_neg (by rw[hz];decide),if_pos hdt]
   rw[hr]
   rw[hz] at hst;rw[hdt] at hda
   have HS:=Lib.hid hsame;have HDA:=Lib.hid hda;have HST:=Lib.hid hst
   clear hda hg hsame hn hF hlt hr hst hat hml hz
   go_enter Tryz.func22,Tryz.ntmps22
   go_wp2_with fail
   refine HST.out.mono ?_
   rintro e w1 ⟨rfl,rfl⟩
   go_wp2_with fail
   refine HDA.out.mono ?_
   rintro e w1 ⟨rfl,rfl⟩
   go_wp2_with fail
   go_ret
   exact⟨rfl,HS.out.1,HS.out.2⟩
  | true =>
   have hdt':=hdt
   unfold StL.isData at hdt'
   simp only[decide_eq_true_eq] at hdt'
   obtain⟨j,rfl⟩:∃j:Nat,i=(j:Nat):=⟨i.toNat,by omega⟩
   have hjn:j<σ.n:=by omega
   have hgt:=get_any σ.map1 (j:Nat) w (by omega) (by omega)
   rw[bitI_nat] at hgt
   cases hbt:bit σ.map1 j with
   | false =>
    have hr:σ.write (j:Nat) s=(σ,10):=by unfold StL.write;rw[if_neg (by rw[hz];decide),if_neg (by rw[hdt];decide),if_pos (by rw[Int.toNat_natCast];exact hbt)]
    rw[hr]
    rw[hz] at hst;rw[hdt] at hda;rw[hbt] at hgt
    have HS:=Lib.hid hsame;have HDA:=Lib.hid hda;have HST:=Lib.hid hst;have HGT:=Lib.hid hgt
    clear hda hg hsame hn hF hlt hr hst hat hml hz hgt hbt hdt'
    go_enter Tryz.func22,Tryz.ntmps22
    go_wp2_with fail
    refine HST.out.mono ?_
    rintro e w1 ⟨rfl,rfl⟩
    go_wp2_with fail
    refine HDA.out.mono ?_
    rintro e w1 ⟨rfl,rfl⟩
    go_wp2_with fail
    refine HGT.out.mono ?_
    rintro e w1 ⟨rfl,rfl⟩
    go_wp2_with fail
    go_ret
    exact⟨rfl,HS.out.1,HS.out.2⟩
   | true =>
    by_cases hl:s.length=256
    ·have hr:σ.write (j:Nat) s=σ.touch [(j,s)]:=by unfold StL.write;rw[if_neg (by rw[hz];decide),if_neg (by rw[hdt];decide),if_neg (by rw[Int.toNat_natCast,hbt];decide),if_neg (by simpa using hl)];rfl
     rw[hr]
     rw[hz] at hst;rw[hdt] at hda;rw[hbt] at hgt
     have e1:(!((s.length:Int)==256))=false:=by rw[beq_iff_eq.2 (by omega)];rfl
     have e2:((s.length:Int) != 256)=false:=by rw[bne,beq_iff_eq.2 (by omega)];rfl
     have htc:=STouch_any (w.alloc (.cells #[.int .i64 (j:Nat),strV s] 102)) F sb b σ K [(j,s)] (.slice (some ⟨w.heap.size,0,none⟩) 1 1) (hat.keep (Q.alloc _ _)) hn hdd (SlO.lit (w:=w) (F:=F) #[.int .i64 (j:Nat),strV s] 102 1 2 rfl (fun e=>by have:=hlt _ e;omega)) (fun x hx=>by rw[List.mem_singleton] at hx;subst hx;exact⟨⟨by have:=hdt'.1;unfold firstD at this;omega,hjn⟩,hl⟩) (by simp) (by simpa using hK)
     have HLT:=Lib.hid hlt;have HDA:=Lib.hid hda;have HST:=Lib.hid hst;have HGT:=Lib.hid hgt;have HTC:=Lib.hid htc
     clear hda hg hsame hn hF hlt hr hst hat hml hz hgt hbt hdt' htc hl
     go_enter Tryz.func22,Tryz.ntmps22
     go_wp2_with fail
     refine HST.out.mono ?_
     rintro e w1 ⟨rfl,rfl⟩
     go_wp2_with fail
     refine HDA.out.mono ?_
     rintro e w1 ⟨rfl,rfl⟩
     go_wp2_with fail
     refine HGT.out.mono ?_
     rintro e w1 ⟨rfl,rfl⟩
     go_wp2_with fail
     refine HTC.out.mono ?_
     rintro e w1 ⟨rfl,h1,t1⟩
     have H1:=Lib.hid h1;have T1:=Lib.hid t1
     clear h1 t1
     go_wp2_with fail
     go_ret
     have ht:Turn F w w1:=(Turn.of_q (Q.alloc w _)).trans T1.out
     exact⟨rfl,H1.out.mono (fun k hk=>hk.elim .inl (fun hk=>.inr ⟨by have:=hk.1;simp at this;omega,hk.2⟩)) (fun k hk=>hk.elim (fun hk=>Nat.lt_of_lt_of_le (HLT.out k hk) ht.size) (fun hk=>hk.2)) (Nat.le_refl _),ht⟩
    ·have hr:σ.write (j:Nat) s=(σ,3):=by unfold StL.write;rw[if_neg (by rw[hz];decide),if_neg (by rw[hdt];decide),if_neg (by rw[Int.toNat_natCast,hbt];decide),if_pos (by simpa using hl)]
     rw[hr]
     rw[hz] at hst;rw[hdt] at hda;rw[hbt] at hgt
     have e1:((s.length:Int)==256)=false:=beq_eq_false_iff_ne.2 (by omega)
     have HS:=Lib.hid hsame;have HDA:=Lib.hid hda;have HST:=Lib.hid hst;have HGT:=Lib.hid hgt
     clear hda hg hsame hn hF hlt hr hst hat hml hz hgt hbt hdt'
     go_enter Tryz.func22,Tryz.ntmps22
     go_wp2_with fail
     refine HST.out.mono ?_
     rintro e w1 ⟨rfl,rfl⟩
     go_wp2_with fail
     refine HDA.out.mono ?_
     rintro e w1 ⟨rfl,rfl⟩
     go_wp2_with fail
     refine HGT.out.mono ?_
     rintro e w1 ⟨rfl,rfl⟩
     go_wp2_with fail
     go_ret
     exact⟨rfl,HS.out.1,HS.out.2⟩
 ·have hr:σ.write i s=(σ,σ.state true):=by unfold StL.write;rw[if_pos hz]
  rw[hr]
  have e1:(σ.state true==0)=false:=beq_eq_false_iff_ne.2 hz
  have HS:=Lib.hid hst;have HE:=Lib.hid hsame
  clear hst hg hr hF hlt hsame hz hat hda hn hml
  simp only at HS HE ⊢
  generalize σ.state true=x at *
  go_enter Tryz.func22,Tryz.ntmps22
  go_wp2_with fail
  refine HS.out.mono ?_
  rintro e w1 ⟨rfl,rfl⟩
  go_wp2_with fail
  go_ret
  exact⟨rfl,HE.out.1,HE.out.2⟩
end
section
open Go.RowKit
variable {w w':World} {FJ FC F:Nat→Prop} {sb b p cb tb most clock clock':Nat} {ms ms':Int} {mb:Nat} {m m':KeptLs} {ti ti':List (Nat×Value)} {σ σ':StL} {K:Nat}
theorem StAt.turnBox{F:Nat→Prop}(h:StAt w F sb b σ K)(hw:∀p cb tb,Blk w sb 86 (scells p cb tb σ)→Blk w' sb 86 (scells p cb tb σ'))(t:Turn (fun k=>k=sb) w w')(hj:σ'.j=σ.j)(htx:σ'.tx=σ.tx):StAt w' (grow F w w') sb b σ' K∧Turn F w w':=by
 have hs:=h.sb
 obtain⟨FJ,FC,p,cb,tb,most,clock,ms,mb,m,ti,hg,hF,hlt,hcl⟩:=h
 exact⟨⟨_,_,_,_,_,_,_,_,_,_,_,hg.turnBox t (hw _ _ _ hg.box) hj htx,fun k hk=>.inl (hF k hk),fun k hk=>hk.elim (fun hk=>Nat.lt_of_lt_of_le (hlt k hk) t.size) (fun hk=>hk.2),hcl⟩,t.mono (fun k hk=>by rw[hk];exact hs)⟩
theorem StAt.setMap{F:Nat→Prop}(h:StAt w F sb b σ K)(x:Bytes):StAt (w.setCell ⟨sb,2,none⟩ (strV x)) (grow F w (w.setCell ⟨sb,2,none⟩ (strV x))) sb b { σ with map1:=x } K∧Turn F w (w.setCell ⟨sb,2,none⟩ (strV x)) :=
 h.turnBox (fun _ _ _ hb=>hb.set 2 (strV x)) (Turn.setCell (a:=⟨sb,2,none⟩) (Turn.refl (fun k=>k=sb) w) (.inl rfl) _) rfl rfl
theorem StAt.boxed{F:Nat→Prop}(h:StAt w F sb b σ K):∃p cb tb,Blk w sb 86 (scells p cb tb σ):=by
 obtain⟨FJ,FC,p,cb,tb,most,clock,ms,mb,m,ti,hg,hF,hlt,hcl⟩:=h
 exact⟨_,_,_,hg.box⟩
theorem StAt.then{F:Nat→Prop}{w2 w3:World}(t1:Turn F w w2)(hl:∀k,F k→k<w.heap.size)(h:StAt w3 (grow (grow F w w2) w2 w3) sb b σ K)(t2:Turn (grow F w w2) w2 w3):StAt w3 (grow F w w3) sb b σ K∧Turn F w w3:=by
 have t:=t1.step t2
 exact⟨h.mono (fun k hk=>grow_trans t1.size t2.size hk) (fun k hk=>hk.elim (fun hk=>Nat.lt_of_lt_of_le (hl k hk) t.size) (fun hk=>hk.2)) (Nat.le_refl _),t⟩
theorem StAt.then'{F:Nat→Prop}{w2 w3:World}(q:Q w w2)(hl:∀k,F k→k<w.heap.size)(h:StAt w3 (grow F w2 w3) sb b σ K)(t2:Turn F w2 w3):StAt w3 (grow F w w3) sb b σ K∧Turn F w w3:=by
 have t:=(Turn.of_q (own:=F) q).trans t2
 exact⟨h.mono (fun k hk=>hk.elim .inl (fun hk=>.inr ⟨Nat.le_trans q.size hk.1,hk.2⟩)) (fun k hk=>hk.elim (fun hk=>Nat.lt_of_lt_of_le (hl k hk) t.size) (fun hk=>hk.2)) (Nat.le_refl _),t⟩
theorem SlO.owned{F:Nat→Prop}{base:Nat}{e:TypeId}{size:Nat}{v:Value}{n:Nat}{xs:List Value}(h:w.ownsRow base e size v n xs)(hF:∀g,base≤g→¬F g):SlO w F v n size xs:=by
 refine⟨Sl.of_owns h,fun hn=>?_⟩
 rcases h.2 with ⟨_,h2⟩|⟨g,cap,cur,rfl,hb2,hg,rest⟩
 ·omega
 ·exact⟨g,0,⟨cap,rfl⟩,(Array.getElem?_eq_some_iff.1 hg).1,hF g hb2⟩
def turnedK(a b:Bytes)(k:Nat):List WrL:=((List.range k).filter fun i=>partL b i != partL a i).map fun i=>(63+i,partL b i)
theorem turnedK_succ(a b:Bytes)(k:Nat):turnedK a b (k+1)=turnedK a b k++if partL b k=partL a k then [] else [(63+k,partL b k)]:=by
 unfold turnedK
 rw[List.range_succ,List.filter_append,List.map_append]
 congr 1
 by_cases h:partL b k=partL a k
 ·rw[if_pos h,List.filter_cons_of_neg (by simp[h])];rfl
 ·rw[if_neg h,List.filter_cons_of_pos (by simpa using h)];rfl
theorem turnedK_len(a b:Bytes)(k:Nat):(turnedK a b k).length≤k:=by
 unfold turnedK
 rw[List.length_map]
 exact Nat.le_trans (List.length_filter_le _ _) (by simp)
theorem turnedK_ok(a b:Bytes)(k n:Nat)(hk:63+k≤n)(hb:b.length=256*k):∀x∈turnedK a b k,(63≤x.1∧x.1<n)∧x.2.length=256:=by
 intro x hx
 obtain⟨i,hi,rfl⟩:=List.mem_map.1 hx
 have:=List.mem_range.1 (List.mem_filter.1 hi).1
 refine⟨by simp only;omega,?_⟩
 show(partL b i).length=256
 unfold partL
 rw[List.length_take,List.length_drop,hb];omega
theorem STurn_any(w:World)(F:Nat→Prop)(sb b:Nat)(σ:StL)(K:Nat)(start c:Nat)(on:Bool)(h:StAt w F sb b σ K)(hn:StNum σ)(hd:σ.dead=false)(hc:start+c≤σ.n)(hK:K+2≤1000000000000000000):
  Calls Tryz.prog 59 #[ptrV sb,.int .i64 (start:Nat),.int .i64 (c:Nat),.bool on] w fun e w'=>e=.returned (.int .i64 (σ.turn start c on).2)∧StAt w' (grow F w w') sb b (σ.turn start c on).1 (K+2)∧Turn F w w':=by
 have hF:=h.lt
 have hmx:=hn.max;have hbig:=hn.big;have hml:=hn.map
 have hpn:partsN σ.n≤2∧63+partsN σ.n≤σ.n∧σ.n≤8*(256*partsN σ.n):=by unfold partsN;omega
 have hset:=set_ok σ.map1 start c on w (by omega) (by omega)
 have hsl:(setTo σ.map1 start on c).length=256*partsN σ.n:=by rw[length_setTo,hml]
 have htu:σ.turned (setTo σ.map1 start on c)=turnedK σ.map1 (setTo σ.map1 start on c) (partsN σ.n):=rfl
 have hturn:σ.turn start c on=if (σ.touch (turnedK σ.map1 (setTo σ.map1 start on c) (partsN σ.n))).2≠0 then σ.touch (turnedK σ.map1 (setTo σ.map1 start on c) (partsN σ.n)) else({ (σ.touch (turnedK σ.map1 (setTo σ.map1 start on c) (partsN σ.n))).1 with map1:=setTo σ.map1 start on c },0):=by unfold StL.turn;rw[htu]
 generalize setTo σ.map1 start on c=nb at *
 have hbl:=fun (W:World) (q:Q w W)=>(show Calls Tryz.prog 46 #[ptrV sb] W fun e w'=>e=.returned (.int .i64 (σ.n:Nat))∧W=w' from by
  obtain⟨FJ,FC,p,cb,tb,most,clock,ms,mb,m,ti,hg,_⟩:=h.keep q
  exact SBlocks_any hg)
 have htc:=fun (W:World) (q:Q w W) (lv:Value) (hl:SlO W F lv (turnedK σ.map1 nb (partsN σ.n)).length 2 (wrVs (turnedK σ.map1 nb (partsN σ.n))))=>STouch_any W F sb b σ K _ lv (h.keep q) hn hd hl (turnedK_ok _ _ _ _ hpn.2.1 hsl) (by have:=turnedK_len σ.map1 nb (partsN σ.n);omega) (by have:=turnedK_len σ.map1 nb (partsN σ.n);omega)
 obtain⟨p,cb,tb,hbx⟩:=h.boxed
 obtain⟨c0,c1,c2,c3,c4,c5⟩:=Blk.c6 hbx
 have hpt:=fun (W:World)=>Parts_any σ.n W (by omega)
 have hp1:=fun (W:World) (i:Nat) (hi:i<partsN σ.n)=>Part_any nb i W (by rw[hsl];omega) (by omega)
 have hp2:=fun (W:World) (i:Nat) (hi:i<partsN σ.n)=>Part_any σ.map1 i W (by rw[hml];omega) (by omega)
 obtain⟨i1,hi1,hy0,hy1,hy2⟩:=info_parts tinfoWr
 have HSET:=Lib.hid hset;have HBL:=Lib.hid hbl;have HTC:=Lib.hid htc;have HPT:=Lib.hid hpt;have HP1:=Lib.hid hp1;have HP2:=Lib.hid hp2;have HTU:=Lib.hid hturn;have HF:=Lib.hid hF;have HPN:=Lib.hid hpn
 have hpn2:partsN σ.n≤2:=hpn.1
 clear hset hbl htc hpt hp1 hp2 hturn htu hsl hml h hbx hpn hF hn hd
 generalize partsN σ.n=pn at *
 generalize htl:σ.map1=m1 at *
 go_enter Tryz.func59,Tryz.ntmps59
 go_wp2_with fail
 refine HSET.out.mono ?_
 rintro e w1 ⟨rfl,q1⟩
 have q1:Q w w1:=q1
 have d2:=cellQ q1 c2
 have HQ1:=Lib.hid q1
 clear q1
 go_wp2_with fail
 refine(HBL.out _ HQ1.out).mono ?_
 rintro e w2 ⟨rfl,rfl⟩
 go_wp2_with fail
 refine(HPT.out _).mono ?_
 rintro e w2 ⟨rfl,rfl⟩
 go_wp2_with fail
 go_loopw [11,29] (fun v i wr=>∃k:Nat,i=.int .i64 (k:Nat)∧k≤pn∧Hid (wr.ownsRow w1.heap.size 102 2 v (turnedK m1 nb k).length (wrVs (turnedK m1 nb k)))∧Hid (Q w1 wr)) (fun _ i _=>pn-(intOf i).toNat)
 case atStart=>exact⟨0,rfl,Nat.zero_le _,Lib.hid (World.ownsRow_nil _ _ _ _),Lib.hid (Q.refl _)⟩
 case round =>
  obtain⟨k,rfl,hk,HOW,HQ⟩:=hrel
  by_cases hlt:k<pn
  ·have hki:(k:Int)<(pn:Int):=by omega
   have x1:=cellQ HQ.out d2
   have hst:=turnedK_succ m1 nb k
   have hfl:=turnedK_len m1 nb k
   by_cases heq:partL nb k=partL m1 k
   ·have e1:(partL nb k==partL m1 k)=true:=beq_iff_eq.2 heq
    rw[if_pos heq,List.append_nil] at hst
    have HST:=Lib.hid hst
    clear hst heq
    go_wp2_with fail
    refine(HP1.out _ k hlt).mono ?_
    rintro e w2 ⟨rfl,rfl⟩
    go_wp2_with fail
    refine(HP2.out _ k hlt).mono ?_
    rintro e w2 ⟨rfl,rfl⟩
    go_wp2_with fail
    go_roundw
    case rel=>exact⟨k+1,by go_num,by omega,Lib.hid (by rw[HST.out];exact HOW.out),HQ⟩
    case measure=>simp[intOf];omega
   ·have e1:(partL nb k==partL m1 k)=false:=beq_eq_false_iff_ne.2 heq
    rw[if_neg heq] at hst
    have HST:=Lib.hid hst
    clear hst heq
    generalize hacc:turnedK m1 nb k=acc at *
    have hc1:∀u∈#[Value.int .i64 (63+(k:Int)),strV (partL nb k)].toList,u.oneCell'=true:=by intro u hu;simp at hu;rcases hu with rfl|rfl<;>rfl
    have hc2:(acc.length+1)*24≤140737488355328:=by omega
    have HC3:=Lib.hid hc1;have HC4:=Lib.hid hc2
    have hb0:w1.heap.size≤wr.heap.size:=HQ.out.size
    clear hc1 hc2 hacc
    go_wp2_with fail
    refine(HP1.out _ k hlt).mono ?_
    rintro e w2 ⟨rfl,rfl⟩
    go_wp2_with fail
    refine(HP2.out _ k hlt).mono ?_
    rintro e w2 ⟨rfl,rfl⟩
    go_wp2_with (at_builtin;refine wpList_app wr (by rfl) _ _ 49 (by rfl) w1.heap.size 102 _ i1 (.agg #[.int .i64 0,strV []]) 2 24 Tryz.underlying49 hi1 hy0 hy1 hy2 rfl (by decide) (by decide) _ _ _ (by rfl) HOW.out #[.int .i64 (63+(k:Int)),strV (partL nb k)] (by rfl) rfl HC3.out HC4.out hb0 ?_)
    intro g11 cap11 w11 hr11 hg11 ho11 hlt11 hlt11b
    have hq21:Q w1 w11:=grown_below HQ.out HOW.out hg11 (Nat.le_refl _) hb0
    have hr11':w11.ownsRow w1.heap.size 102 2 (.slice (some ⟨g11,0,none⟩) (acc.length+1) cap11) (turnedK m1 nb (k+1)).length (wrVs (turnedK m1 nb (k+1))):=by
     rw[HST.out,List.length_append,wrVs_append,show wrVs [(63+k,partL nb k)]=[.int .i64 (63+(k:Int)),strV (partL nb k)] by simp[wrVs,encW]];exact hr11
    have HQ11:=Lib.hid hq21;have HR11:=Lib.hid hr11'
    clear hr11 hg11 ho11 hlt11 hlt11b hr11' hq21
    go_wp2_with fail
    go_roundw
    case rel=>exact⟨k+1,by go_num,by omega,HR11,HQ11⟩
    case measure=>simp[intOf];omega
  ·have hki:¬(k:Int)<(pn:Int):=by omega
   obtain rfl:k=pn:=by omega
   have hq:Q w wr:=HQ1.out.trans HQ.out
   have hrow:=HOW.out
   have hz1:=HQ1.out.size
   have hso:=SlO.owned hrow (F:=F) (fun g hg hf=>by have:=HF.out g hf;omega)
   have htc:=HTC.out wr hq _ hso
   have HTC2:=Lib.hid htc;have HQW:=Lib.hid hq
   clear htc hq hrow hso
   go_wp2_with fail
   refine HTC2.out.mono ?_
   rintro e w3 ⟨rfl,h3,t3⟩
   by_cases hz:(σ.touch (turnedK m1 nb k)).2=0
   ·have e1:((σ.touch (turnedK m1 nb k)).2==0)=true:=beq_iff_eq.2 hz
    obtain⟨p3,cb3,tb3,hb3⟩:=h3.boxed
    have d2:=hb3.cell 2 (strV (σ.touch (turnedK m1 nb k)).1.map1) rfl
    have f2:=hb3.frozen 2
    have hfin:σ.turn start c on=({ (σ.touch (turnedK m1 nb k)).1 with map1:=nb },0):=by rw[HTU.out,if_neg (by rw[hz];decide)]
    obtain⟨h4,t4⟩:=h3.setMap nb
    obtain⟨h5,t5⟩:=StAt.then t3 (fun i hi=>Nat.lt_of_lt_of_le (HF.out i hi) HQW.out.size) h4 t4
    obtain⟨h6,t6⟩:=StAt.then' HQW.out HF.out h5 t5
    have HFIN:=Lib.hid hfin;have H6:=Lib.hid h6;have T6:=Lib.hid t6
    clear h3 t3 h4 t4 h5 t5 h6 t6 hb3 hfin hz
    generalize (σ.touch (turnedK m1 nb k)).2=er at *
    generalize (σ.touch (turnedK m1 nb k)).1=σ1 at *
    go_wp2_with fail
    go_ret
    rw[HFIN.out]
    exact⟨rfl,H6.out.mono (fun _ h=>h) H6.out.lt (by have:=(turnedK_len m1 nb k);omega),T6.out⟩
   ·have e1:((σ.touch (turnedK m1 nb k)).2==0)=false:=beq_eq_false_iff_ne.2 hz
    have hfin:σ.turn start c on=σ.touch (turnedK m1 nb k):=by rw[HTU.out,if_pos hz]
    obtain⟨h6,t6⟩:=StAt.then' HQW.out HF.out h3 t3
    have HFIN:=Lib.hid hfin;have H6:=Lib.hid h6;have T6:=Lib.hid t6
    clear h3 t3 h6 t6 hfin hz
    generalize σ.touch (turnedK m1 nb k)=st at *
    go_wp2_with fail
    go_ret
    rw[HFIN.out]
    exact⟨rfl,H6.out.mono (fun _ h=>h) H6.out.lt (by have:=(turnedK_len m1 nb k);omega),T6.out⟩
end
section
open Go.RowKit
theorem StAt.hblocks{w:World}{F:Nat→Prop}{sb b:Nat}{σ:StL}{K:Nat}(h:StAt w F sb b σ K):∀W,Q w W→Calls Tryz.prog 46 #[ptrV sb] W fun e w'=>e=.returned (.int .i64 (σ.n:Nat))∧W=w':=fun W q=>by
 obtain⟨FJ,FC,p,cb,tb,most,clock,ms,mb,m,ti,hg,_⟩:=h.keep q
 exact SBlocks_any hg
theorem StAt.hstate{w:World}{F:Nat→Prop}{sb b:Nat}{σ:StL}{K:Nat}(h:StAt w F sb b σ K)(o:Bool):Calls Tryz.prog 57 #[ptrV sb,.bool o] w fun e w'=>e=.returned (.int .i64 (σ.state o))∧w=w':=by
 obtain⟨FJ,FC,p,cb,tb,most,clock,ms,mb,m,ti,hg,_⟩:=h
 exact SState_any o hg
theorem StAt.hdata{w:World}{F:Nat→Prop}{sb b:Nat}{σ:StL}{K:Nat}(h:StAt w F sb b σ K)(hn:σ.n≤4096)(i:Int):∀W,Q w W→Calls Tryz.prog 60 #[ptrV sb,.int .i64 i] W fun e w'=>e=.returned (.bool (σ.isData i))∧W=w':=fun W q=>by
 obtain⟨FJ,FC,p,cb,tb,most,clock,ms,mb,m,ti,hg,_⟩:=h.keep q
 exact SData_any i hg hn
theorem firstN_n{σ:StL}(hn:StNum σ):firstN σ.map1 (σ.n:Nat)=σ.n:=by
 have hml:=hn.map;have hb:=hn.big
 have:σ.n≤8*(256*partsN σ.n):=by unfold partsN;omega
 unfold firstN;omega
theorem SAlloc_any(w:World)(F:Nat→Prop)(sb b:Nat)(σ:StL)(K:Nat)(c:Int)(h:StAt w F sb b σ K)(hn:StNum σ)(hK:K+2≤1000000000000000000):
  Calls Tryz.prog 20 #[ptrV sb,.int .i64 c] w fun e w'=>e=.returned (.tuple #[.int .i64 (σ.alloc c).2.1,.int .i64 (σ.alloc c).2.2])∧StAt w' (grow F w w') sb b (σ.alloc c).1 (K+2)∧Turn F w w':=by
 have hsame:=fun (W:World) (q:Q w W)=>h.quiet q (Nat.le_add_right K 2)
 have hst:=h.hstate true
 by_cases hz:σ.state true=0
 ·obtain⟨hdd,hoo⟩:=state_open hz
  rw[hz] at hst
  by_cases hc:c<1
  ·have hr:σ.alloc c=(σ,0,1):=by unfold StL.alloc;rw[if_neg (by rw[hz];decide),if_pos hc]
   rw[hr]
   have HS:=Lib.hid (hsame w (Q.refl w));have HST:=Lib.hid hst
   clear hsame h hst hr hz hn
   go_enter Tryz.func20,Tryz.ntmps20
   go_wp2_with fail
   refine HST.out.mono ?_
   rintro e w1 ⟨rfl,rfl⟩
   go_wp2_with fail
   go_ret2
   exact⟨rfl,HS.out.1,HS.out.2⟩
  ·obtain⟨k,rfl⟩:∃k:Nat,c=(k:Nat):=⟨c.toNat,by omega⟩
   have hbl:=h.hblocks
   have hmx:=hn.max
   have hml:=hn.map
   have hfit:=fun (W:World)=>BFit_any σ.map1 (σ.n:Nat) (k:Nat) W (by rw[hml];unfold partsN;omega) (by omega) (by omega)
   have hfr:fitR σ.map1 (σ.n:Nat) (k:Nat)=fitO (fitN σ.map1 k σ.n):=by
    unfold fitR;rw[if_neg hc,firstN_n hn,Int.toNat_natCast]
   rw[hfr] at hfit
   obtain⟨p,cb,tb,hbx⟩:=h.boxed
   obtain⟨c0,c1,c2,c3,c4,c5⟩:=Blk.c6 hbx
   have hF:=h.lt
   cases hfn:fitN σ.map1 k σ.n with
   | none =>
    have hr:σ.alloc (k:Nat)=(σ,0,9):=by unfold StL.alloc;rw[if_neg (by rw[hz];decide),if_neg hc,Int.toNat_natCast,hfn]
    rw[hr]
    rw[hfn] at hfit
    simp only[fitO] at hfit
    have HS:=Lib.hid hsame;have HST:=Lib.hid hst;have HBL:=Lib.hid hbl;have HFIT:=Lib.hid hfit
    clear hsame hst hr hz hn hbl hfit hfr hfn h hF hml hbx
    generalize σ.map1=m1 at *
    generalize σ.n=n at *
    have KK:=Lib.hid (Q.refl w)
    go_enter Tryz.func20,Tryz.ntmps20
    go_wp2_with fail
    refine HST.out.mono ?_
    rintro e w1 ⟨rfl,rfl⟩
    go_wp2_with fail
    go_region_held3 (fun w'=>w'.cell? ⟨sb,2,none⟩=some (strV m1))
     (first|exact c2|exact cellQ (by repeat (first|with_reducible exact KK.out|with_reducible exact Q.refl _|with_reducible apply Qs.dr|with_reducible apply Qs.al)) c2)
     (first
      | (go_at_call 46;with_reducible refine(HBL.out _ (by repeat (first|with_reducible exact KK.out|with_reducible apply Qs.dr|with_reducible apply Qs.al))).mono ?_;rintro e w5 ⟨rfl,rfl⟩)
      | (go_at_call 58;with_reducible refine(HFIT.out _).mono ?_;rintro e w6 ⟨rfl,q6⟩;have s':Q w w6:=Q.trans (by repeat (first|with_reducible exact KK.out|with_reducible apply Qs.dr|with_reducible apply Qs.al)) (Q.of q6);clear KK;have KK:=Lib.hid s';clear s' q6))
    all_goals
     have hq:Q w w6:=by repeat (first|with_reducible exact KK.out|with_reducible apply Qs.dr|with_reducible apply Qs.al)
     have HE:=Lib.hid (HS.out w6 hq)
     clear hq
     go_wp2_with fail
     go_ret2
     exact⟨rfl,HE.out.1,HE.out.2⟩
   | some a =>
    have hac:a+k≤σ.n:=(fit_some _ _ _ _ hfn).2.1
    have htn:=fun (W:World) (q:Q w W)=>STurn_any W F sb b σ K a k true (h.keep q) hn hdd hac hK
    have hr:σ.alloc (k:Nat)=if (σ.turn a k true).2≠0 then((σ.turn a k true).1,0,(σ.turn a k true).2) else((σ.turn a k true).1,(a:Int),0):=by unfold StL.alloc;rw[if_neg (by rw[hz];decide),if_neg hc,Int.toNat_natCast,hfn]
    rw[hfn] at hfit
    simp only[fitO] at hfit
    rw[hr]
    have HF:=Lib.hid hF;have HTN:=Lib.hid htn;have HST:=Lib.hid hst;have HBL:=Lib.hid hbl;have HFIT:=Lib.hid hfit
    clear hsame hst hr hz hn hbl hfit hfr hfn h hF hml hbx htn hac
    generalize σ.turn a k true=st at *
    generalize σ.map1=m1 at *
    generalize σ.n=n at *
    have KK:=Lib.hid (Q.refl w)
    go_enter Tryz.func20,Tryz.ntmps20
    go_wp2_with fail
    refine HST.out.mono ?_
    rintro e w1 ⟨rfl,rfl⟩
    go_wp2_with fail
    go_region_held3 (fun w'=>w'.cell? ⟨sb,2,none⟩=some (strV m1))
     (first|exact c2|exact cellQ (by repeat (first|with_reducible exact KK.out|with_reducible exact Q.refl _|with_reducible apply Qs.dr|with_reducible apply Qs.al)) c2)
     (first
      | (go_at_call 46;with_reducible refine(HBL.out _ (by repeat (first|with_reducible exact KK.out|with_reducible apply Qs.dr|with_reducible apply Qs.al))).mono ?_;rintro e w5 ⟨rfl,rfl⟩)
      | (go_at_call 58;with_reducible refine(HFIT.out _).mono ?_;rintro e w6 ⟨rfl,q6⟩;have s':Q w w6:=Q.trans (by repeat (first|with_reducible exact KK.out|with_reducible apply Qs.dr|with_reducible apply Qs.al)) (Q.of q6);clear KK;have KK:=Lib.hid s';clear s' q6))
    all_goals
     have hq:Q w w6:=by repeat (first|with_reducible exact KK.out|with_reducible apply Qs.dr|with_reducible apply Qs.al)
     have HT6:=Lib.hid (HTN.out w6 hq);have HQ6:=Lib.hid hq
     clear hq c2
     go_wp2_with fail
     refine HT6.out.mono ?_
     rintro e w7 ⟨rfl,h7,t7⟩
     have H7:=Lib.hid (StAt.then' HQ6.out HF.out h7 t7)
     clear h7 t7
     by_cases hz:st.2=0
     ·have e1:(st.2==0)=true:=beq_iff_eq.2 hz
      have HZ:=Lib.hid hz
      clear hz
      go_wp2_with fail
      go_ret2
      try rw[if_neg (by rw[HZ.out];decide)]
      exact⟨rfl,H7.out.1,H7.out.2⟩
     ·have e1:(st.2==0)=false:=beq_eq_false_iff_ne.2 hz
      have HZ:=Lib.hid hz
      clear hz
      go_wp2_with fail
      go_ret2
      try rw[if_pos HZ.out]
      exact⟨rfl,H7.out.1,H7.out.2⟩
 ·have hr:σ.alloc c=(σ,0,σ.state true):=by unfold StL.alloc;rw[if_pos hz]
  rw[hr]
  have e1:(σ.state true==0)=false:=beq_eq_false_iff_ne.2 hz
  have HS:=Lib.hid hst;have HE:=Lib.hid (hsame w (Q.refl w))
  clear hst hr hsame hz hn h
  simp only at HS HE ⊢
  generalize σ.state true=x at *
  go_enter Tryz.func20,Tryz.ntmps20
  go_wp2_with fail
  refine HS.out.mono ?_
  rintro e w1 ⟨rfl,rfl⟩
  go_wp2_with fail
  go_ret2
  exact⟨rfl,HE.out.1,HE.out.2⟩
theorem SRelease_bad(w:World)(F:Nat→Prop)(sb b:Nat)(σ:StL)(K:Nat)(a c:Int)(h:StAt w F sb b σ K)(hn:StNum σ)(hz:σ.state true=0)(hb:c<1∨σ.isData a=false∨(σ.n:Int)-a<c):
  Calls Tryz.prog 25 #[ptrV sb,.int .i64 a,.int .i64 c] w fun e w'=>e=.returned (.int .i64 2)∧w=w':=by
 have hst:=h.hstate true
 have hmx:=hn.max
 rw[hz] at hst
 have hda:=h.hdata hmx a w (Q.refl w)
 have hbl:=h.hblocks w (Q.refl w)
 by_cases hc:c<1
 ·have e1:decide (c<1)=true:=decide_eq_true hc
  have HST:=Lib.hid hst
  clear hb h hst hz hn hda hbl
  go_enter Tryz.func25,Tryz.ntmps25
  go_wp2_with fail
  refine HST.out.mono ?_
  rintro e w1 ⟨rfl,rfl⟩
  go_wp2_with fail
  go_ret
  exact⟨rfl,rfl⟩
 ·have e1:decide (c<1)=false:=decide_eq_false hc
  cases hdt:σ.isData a with
  | false =>
   rw[hdt] at hda
   have HST:=Lib.hid hst;have HDA:=Lib.hid hda
   clear hb h hst hz hn hda hbl hdt
   go_enter Tryz.func25,Tryz.ntmps25
   go_wp2_with fail
   refine HST.out.mono ?_
   rintro e w1 ⟨rfl,rfl⟩
   go_wp2_with fail
   refine HDA.out.mono ?_
   rintro e w1 ⟨rfl,rfl⟩
   go_wp2_with fail
   go_ret
   exact⟨rfl,rfl⟩
  | true =>
   have hlt:(σ.n:Int)-a<c:=by rcases hb with hb|hb|hb;exact absurd hb hc;rw[hdt] at hb;exact absurd hb (by decide);exact hb
   have hdt':=hdt
   unfold StL.isData at hdt'
   simp only[decide_eq_true_eq] at hdt'
   rw[hdt] at hda
   obtain⟨j,rfl⟩:∃j:Nat,a=(j:Nat):=⟨a.toNat,by omega⟩
   have hw:IntKind.i64.wrap ((σ.n:Int)-(j:Int))=(σ.n:Int)-(j:Int):=IntWalk.i64_in _ (by omega)
   have e2:decide ((σ.n:Int)-(j:Int)<c)=true:=decide_eq_true hlt
   have HST:=Lib.hid hst;have HDA:=Lib.hid hda;have HBL:=Lib.hid hbl
   clear hb h hst hz hn hda hbl hdt
   generalize σ.n=n at *
   go_enter Tryz.func25,Tryz.ntmps25
   go_wp2_with fail
   refine HST.out.mono ?_
   rintro e w1 ⟨rfl,rfl⟩
   go_wp2_with fail
   refine HDA.out.mono ?_
   rintro e w1 ⟨rfl,rfl⟩
   go_wp2_with fail
   refine HBL.out.mono ?_
   rintro e w1 ⟨rfl,rfl⟩
   go_wp2_with fail
   go_ret
   exact⟨rfl,rfl⟩
theorem SRelease_any(w:World)(F:Nat→Prop)(sb b:Nat)(σ:StL)(K:Nat)(a c:Int)(h:StAt w F sb b σ K)(hn:StNum σ)(hK:K+2≤1000000000000000000):
  Calls Tryz.prog 25 #[ptrV sb,.int .i64 a,.int .i64 c] w fun e w'=>e=.returned (.int .i64 (σ.release a c).2)∧StAt w' (grow F w w') sb b (σ.release a c).1 (K+2)∧Turn F w w':=by
 have hsame:=fun (W:World) (q:Q w W)=>h.quiet q (Nat.le_add_right K 2)
 have hst:=h.hstate true
 by_cases hz:σ.state true=0
 ·obtain⟨hdd,hoo⟩:=state_open hz
  by_cases hb:c<1∨σ.isData a=false∨(σ.n:Int)-a<c
  ·have hr:σ.release a c=(σ,2):=by unfold StL.release;rw[if_neg (by rw[hz];decide),if_pos hb]
   rw[hr]
   refine(SRelease_bad w F sb b σ K a c h hn hz hb).mono ?_
   rintro e w1 ⟨rfl,rfl⟩
   exact⟨rfl,hsame w (Q.refl w)⟩
  ·have hr:σ.release a c=if ∃i,i<c.toNat∧bit σ.map1 (a.toNat+i)=false then(σ,10) else σ.turn a.toNat c.toNat false:=by unfold StL.release;rw[if_neg (by rw[hz];decide),if_neg hb]
   simp only[not_or] at hb
   obtain⟨h1,h2,h3⟩:=hb
   have h2:σ.isData a=true:=by simpa using h2
   have hdt':=h2
   unfold StL.isData at hdt'
   simp only[decide_eq_true_eq] at hdt'
   have hmx:=hn.max
   have hml:=hn.map
   have hda:=h.hdata hmx a w (Q.refl w)
   have hbl:=h.hblocks w (Q.refl w)
   rw[hz] at hst;rw[h2] at hda
   obtain⟨j,rfl⟩:∃j:Nat,a=(j:Nat):=⟨a.toNat,by omega⟩
   obtain⟨k,rfl⟩:∃k:Nat,c=(k:Nat):=⟨c.toNat,by omega⟩
   have hjk:j+k≤σ.n:=by omega
   have hw:IntKind.i64.wrap ((σ.n:Int)-(j:Int))=(σ.n:Int)-(j:Int):=IntWalk.i64_in _ (by omega)
   have e1:decide (((k:Nat):Int)<1)=false:=decide_eq_false h1
   have e2:decide ((σ.n:Int)-(j:Int)<((k:Nat):Int))=false:=decide_eq_false h3
   rw[Int.toNat_natCast,Int.toNat_natCast] at hr
   obtain⟨p,cb,tb,hbx⟩:=h.boxed
   obtain⟨c0,c1,c2,c3,c4,c5⟩:=Blk.c6 hbx
   have hgt:=fun (i:Nat) (hi:i<k)=>get_any σ.map1 (((j+i:Nat):Nat):Int) w (by rw[hml];unfold partsN;omega) (by omega)
   have htn:=STurn_any w F sb b σ K j k false h hn hdd hjk hK
   have hr1:(∃i,i<k∧bit σ.map1 (j+i)=false)→σ.release (j:Nat) (k:Nat)=(σ,10):=fun hx=>by rw[hr,if_pos hx]
   have hr2:(¬∃i,i<k∧bit σ.map1 (j+i)=false)→σ.release (j:Nat) (k:Nat)=σ.turn j k false:=fun hx=>by rw[hr,if_neg hx]
   have HR1:=Lib.hid hr1;have HR2:=Lib.hid hr2
   clear hr1 hr2
   generalize σ.release (j:Nat) (k:Nat)=r at *
   have HST:=Lib.hid hst;have HDA:=Lib.hid hda;have HBL:=Lib.hid hbl;have HGT:=Lib.hid hgt;have HTN:=Lib.hid htn;have HS:=Lib.hid (hsame w (Q.refl w))
   clear hsame hst hr hz hn hbl hml hbx htn h3 h2 hgt hda h
   generalize σ.turn j k false=st at *
   generalize σ.map1=m1 at *
   generalize σ.n=n at *
   go_enter Tryz.func25,Tryz.ntmps25
   go_wp2_with fail
   refine HST.out.mono ?_
   rintro e w1 ⟨rfl,rfl⟩
   go_wp2_with fail
   refine HDA.out.mono ?_
   rintro e w1 ⟨rfl,rfl⟩
   go_wp2_with fail
   refine HBL.out.mono ?_
   rintro e w1 ⟨rfl,rfl⟩
   go_wp2_with fail
   go_loopw [31] (fun v wr=>∃i:Nat,v=.int .i64 (i:Nat)∧i≤k∧wr=w∧Hid (∀x,x<i→bit m1 (j+x)=true)) (fun v _=>k-(intOf v).toNat)
   case atStart=>exact⟨0,rfl,Nat.zero_le _,rfl,Lib.hid (fun x hx=>by omega)⟩
   case round =>
    obtain⟨i,rfl,hi,rfl,HB⟩:=hrel
    by_cases hlt:i<k
    ·have hki:(i:Int)<(k:Int):=by omega
     have hg:=HGT.out i hlt
     rw[bitI_nat] at hg
     have hcast:(((j+i:Nat):Nat):Int)=(j:Int)+(i:Int):=by push_cast;rfl
     rw[hcast] at hg
     have HG:=Lib.hid hg
     clear hg hcast
     cases hbt:bit m1 (j+i) with
     | true =>
      have hnx:∀x,x<i+1→bit m1 (j+x)=true:=fun x hx=>by
       by_cases hxi:x=i
       ·subst hxi;exact hbt
       ·exact HB.out x (by omega)
      have HNX:=Lib.hid hnx
      have hg:=HG.out
      rw[hbt] at hg
      have HG2:=Lib.hid hg
      clear hg hnx hbt HG
      go_wp2_with fail
      refine HG2.out.mono ?_
      rintro e w1 ⟨rfl,rfl⟩
      go_wp2_with fail
      go_roundw
      case rel=>exact⟨i+1,by go_num,by omega,trivial,HNX⟩
      case measure=>simp[intOf];omega
     | false =>
      have hg:=HG.out
      rw[hbt] at hg
      have HG2:=Lib.hid hg
      have HX:=Lib.hid (HR1.out ⟨i,hlt,hbt⟩)
      clear hg hbt HG
      go_wp2_with fail
      refine HG2.out.mono ?_
      rintro e w1 ⟨rfl,rfl⟩
      go_wp2_with fail
      go_ret
      rw[HX.out]
      exact⟨rfl,HS.out.1,HS.out.2⟩
    ·have hki:¬(i:Int)<(k:Int):=by omega
     obtain rfl:i=k:=by omega
     have HX:=Lib.hid (HR2.out <| by
      rintro⟨x,hx,hb⟩
      rw[HB.out x hx] at hb
      exact absurd hb (by decide))
     go_wp2_with fail
     refine HTN.out.mono ?_
     rintro e w3 ⟨rfl,h3,t3⟩
     have H3:=Lib.hid (And.intro h3 t3)
     clear h3 t3
     go_wp2_with fail
     go_ret
     rw[HX.out]
     exact⟨rfl,H3.out.1,H3.out.2⟩
 ·have hr:σ.release a c=(σ,σ.state true):=by unfold StL.release;rw[if_pos hz]
  rw[hr]
  have e1:(σ.state true==0)=false:=beq_eq_false_iff_ne.2 hz
  have HS:=Lib.hid hst;have HE:=Lib.hid (hsame w (Q.refl w))
  clear hst hr hsame hz hn h
  simp only at HS HE ⊢
  generalize σ.state true=x at *
  go_enter Tryz.func25,Tryz.ntmps25
  go_wp2_with fail
  refine HS.out.mono ?_
  rintro e w1 ⟨rfl,rfl⟩
  go_wp2_with fail
  go_ret
  exact⟨rfl,HE.out.1,HE.out.2⟩
end
section
open Go.RowKit
variable {w w':World} {FJ FC F:Nat→Prop} {sb b p cb tb most clock clock':Nat} {ms ms':Int} {mb:Nat} {m m':KeptLs} {ti ti':List (Nat×Value)} {σ σ':StL} {K:Nat}
structure StU (w:World) (FJ FC:Nat→Prop) (sb b p cb tb most clock:Nat) (ms:Int) (mb:Nat) (m:KeptLs) (ti:List (Nat×Value)) (σ:StL):Prop where
 box:Blk w sb 86 (scells p cb tb σ)
 tm:MapI w tb ti
 jr:JrnAt w FJ p b σ.j
 ca:CacG w FC cb p most clock ms mb m
 apart:∀k,FJ k→¬FC k
 sF:¬FJ sb∧¬FC sb
 tF:¬FJ tb∧¬FC tb
 ok:σ.dead=false→CacOk σ.n most clock σ.tx σ.j.d.get m
theorem StG.loose(h:StG w FJ FC sb b p cb tb most clock ms mb m ti σ):StU w FJ FC sb b p cb tb most clock ms mb m ti σ:=⟨h.box,h.tm,h.jr,h.ca,h.apart,h.sF,h.tF,h.ok⟩
def StUAt(w:World)(F:Nat→Prop)(sb b:Nat)(σ:StL)(K:Nat):Prop :=
 ∃FJ FC p cb tb most clock ms mb m ti,StU w FJ FC sb b p cb tb most clock ms mb m ti σ∧(∀k,FJ k∨FC k∨k=sb∨k=tb→F k)∧(∀k,F k→k<w.heap.size)∧clock≤K
theorem StAt.loose(h:StAt w F sb b σ K):StUAt w F sb b σ K:=by
 obtain⟨FJ,FC,p,cb,tb,most,clock,ms,mb,m,ti,hg,hF,hlt,hcl⟩:=h
 exact⟨_,_,_,_,_,_,_,_,_,_,_,hg.loose,hF,hlt,hcl⟩
theorem StU.keep(h:StU w FJ FC sb b p cb tb most clock ms mb m ti σ)(q:Q w w'):StU w' FJ FC sb b p cb tb most clock ms mb m ti σ :=
 ⟨h.box.stays q,h.tm.same (q.block _ h.tm.lt),h.jr.keep q,h.ca.keep q,h.apart,h.sF,h.tF,h.ok⟩
theorem StUAt.keep(h:StUAt w F sb b σ K)(q:Q w w'):StUAt w' F sb b σ K:=by
 obtain⟨FJ,FC,p,cb,tb,most,clock,ms,mb,m,ti,hg,hF,hlt,hcl⟩:=h
 exact⟨_,_,_,_,_,_,_,_,_,_,_,hg.keep q,hF,fun k hk=>Nat.lt_of_lt_of_le (hlt k hk) q.size,hcl⟩
theorem StUAt.lt(h:StUAt w F sb b σ K):∀k,F k→k<w.heap.size:=by
 obtain⟨FJ,FC,p,cb,tb,most,clock,ms,mb,m,ti,hg,hF,hlt,hcl⟩:=h
 exact hlt
theorem StUAt.mono{G:Nat→Prop}(h:StUAt w F sb b σ K)(k:∀i,F i→G i)(hl:∀i,G i→i<w.heap.size):StUAt w G sb b σ K:=by
 obtain⟨FJ,FC,p,cb,tb,most,clock,ms,mb,m,ti,hg,hF,hlt,hcl⟩:=h
 exact⟨_,_,_,_,_,_,_,_,_,_,_,hg,fun i hi=>k i (hF i hi),hl,hcl⟩
def StL.undone(σ:StL):StL:={ σ with tx:=[],map1:=σ.was }
theorem SUndo_any(w:World)(F:Nat→Prop)(sb b:Nat)(σ:StL)(K:Nat)(h:StUAt w F sb b σ K):
  Calls Tryz.prog 66 #[ptrV sb] w fun e w'=>e=.returned (.tuple #[])∧StUAt w' F sb b σ.undone K∧Turn F w w':=by
 obtain⟨FJ,FC,p,cb,tb,most,clock,ms,mb,m,ti,hg,hF,hlt,hcl⟩:=h
 have hkn:(m.map (·.1)).Nodup:=by
  have:=hg.ca.map.nodup
  have e:(mapOf m).map (·.1)=m.map (·.1):=by simp[mapOf]
  rwa [e] at this
 have hdr:=Drop_any w FC cb p most clock ms mb m hg.ca hkn
 obtain⟨c0,c1,c2,c3,c4,c5⟩:=Blk.c6 hg.box
 have HD:=Lib.hid hdr;have HG:=Lib.hid hg;have HF:=Lib.hid hF;have HLT:=Lib.hid hlt
 clear hdr hg hF hlt
 go_enter Tryz.func66,Tryz.ntmps66
 go_wp2_with fail
 refine HD.out.mono ?_
 rintro e w1 ⟨rfl,h1,t1⟩
 have hb1:Blk w1 sb 86 (scells p cb tb σ):=t1.blk HG.out.box HG.out.sF.2
 obtain⟨d0,d1,d2,d3,d4,d5⟩:=Blk.c6 hb1
 have f2:=hb1.frozen 2
 have ht2:Turn (fun k=>k=sb) w1 (w1.setCell ⟨sb,2,none⟩ (strV σ.was)):=Turn.setCell (a:=⟨sb,2,none⟩) (Turn.refl (fun k=>k=sb) w1) (.inl rfl) _
 have hm1:MapI w1 tb ti:=HG.out.tm.same (t1.block _ HG.out.tm.lt HG.out.tF.2)
 have hne:sb≠tb:=blk_not_map HG.out.box HG.out.tm
 have hend:StUAt (w1.setCell ⟨sb,2,none⟩ (strV σ.was)) F sb b σ.undone K:=by
  refine⟨FJ,FC,p,cb,tb,most,clock,ms,mb,_,ti,⟨hb1.set 2 (strV σ.was),hm1.same (ht2.block _ hm1.lt hne.symm),(HG.out.jr.beside t1 HG.out.apart).beside ht2 (fun k hk e=>HG.out.sF.1 (e▸hk)),h1.beside ht2 (fun k hk e=>HG.out.sF.2 (e▸hk)),HG.out.apart,HG.out.sF,HG.out.tF,fun hd=>(HG.out.ok hd).dropped⟩,HF.out,fun k hk=>?_,hcl⟩
  have:=HLT.out k hk;have:=t1.size;have:=ht2.size;omega
 have htu:Turn F w (w1.setCell ⟨sb,2,none⟩ (strV σ.was)):=(t1.mono (fun k hk=>HF.out k (.inr (.inl hk)))).trans (ht2.mono (fun k hk=>HF.out k (.inr (.inr (.inl hk)))))
 have HE:=Lib.hid hend;have HT:=Lib.hid htu
 clear hend htu hb1 ht2 hm1 h1 t1
 go_wp2_with fail
 go_end0
 exact⟨rfl,HE.out,HT.out⟩
theorem SClose_any(w:World)(F:Nat→Prop)(sb b:Nat)(σ:StL)(K:Nat)(h:StUAt w F sb b σ K)(htx:σ.tx=[]):
  Calls Tryz.prog 67 #[ptrV sb] w fun e w'=>e=.returned (.tuple #[])∧StAt w' F sb b σ.close K∧Turn F w w':=by
 obtain⟨FJ,FC,p,cb,tb,most,clock,ms,mb,m,ti,hg,hF,hlt,hcl⟩:=h
 obtain⟨c0,c1,c2,c3,c4,c5⟩:=Blk.c6 hg.box
 have f4:=hg.box.frozen 4
 have hne:sb≠tb:=blk_not_map hg.box hg.tm
 obtain⟨w1,hw1⟩:∃w1,w1=w.setCell ⟨sb,4,none⟩ (.bool false):=⟨_,rfl⟩
 have t1:Turn (fun k=>k=sb) w w1:=by rw[hw1];exact Turn.setCell (a:=⟨sb,4,none⟩) (Turn.refl (fun k=>k=sb) w) (.inl rfl) _
 have hb1:Blk w1 sb 86 (scells p cb tb { σ with open_:=false }):=by rw[hw1];exact hg.box.set 4 _
 have hm1:MapI w1 tb ti:=hg.tm.same (t1.block _ hg.tm.lt hne.symm)
 have d5:=hb1.cell 5 (.map (some tb)) rfl
 have HG:=Lib.hid hg;have HF:=Lib.hid hF;have HLT:=Lib.hid hlt;have HM:=Lib.hid hm1;have HB:=Lib.hid hb1;have T1:=Lib.hid t1
 clear hg hF hlt hm1 hb1 t1
 go_enter Tryz.func67,Tryz.ntmps67
 go_upto_region 1 with fail
 rw[←hw1]
 clear hw1
 obtain⟨w2,hcr,hm2,hg2,hz2⟩:=run_clear_int (P:=Tryz.prog) HM.out 84 3 3 0 Tryz.underlying84
 have t2:=CacG.turn_of_map hg2
 have hend:StAt w2 F sb b σ.close K:=by
  refine⟨FJ,FC,p,cb,tb,most,clock,ms,mb,m,[],⟨t2.blk HB.out hne,hm2,(HG.out.jr.beside T1.out (fun k hk e=>HG.out.sF.1 (e▸hk))).beside t2 (fun k hk e=>HG.out.tF.1 (e▸hk)),(HG.out.ca.beside T1.out (fun k hk e=>HG.out.sF.2 (e▸hk))).beside t2 (fun k hk e=>HG.out.tF.2 (e▸hk)),HG.out.apart,HG.out.sF,HG.out.tF,fun hd=>?_,fun k=>Iff.rfl,fun x hx=>by simp at hx⟩,HF.out,fun k hk=>?_,hcl⟩
  ·have:=HG.out.ok hd
   rw[htx] at this;exact this
  ·have:=HLT.out k hk;have:=T1.out.size;have:=t2.size;omega
 have htu:Turn F w w2:=(T1.out.mono (fun k hk=>HF.out k (.inr (.inr (.inl hk))))).trans (t2.mono (fun k hk=>HF.out k (.inr (.inr (.inr hk)))))
 have HE:=Lib.hid hend;have HT:=Lib.hid htu
 clear hend htu t2 hm2 hg2 hz2
 go_wp2_with fail
 go_end0
 exact⟨rfl,HE.out,HT.out⟩
theorem SAbort_any(w:World)(F:Nat→Prop)(sb b:Nat)(σ:StL)(K:Nat)(h:StAt w F sb b σ K):
  Calls Tryz.prog 26 #[ptrV sb] w fun e w'=>e=.returned (.tuple #[])∧StAt w' F sb b σ.abort K∧Turn F w w':=by
 obtain⟨p,cb,tb,hbx⟩:=h.boxed
 obtain⟨c0,c1,c2,c3,c4,c5⟩:=Blk.c6 hbx
 cases ho:σ.open_ with
 | false =>
  have hr:σ.abort=σ:=by unfold StL.abort;rw[ho];rfl
  rw[hr]
  rw[ho] at c4
  have H:=Lib.hid h
  clear h hbx hr ho
  go_enter Tryz.func26,Tryz.ntmps26
  go_wp2_with fail
  go_end0
  exact⟨rfl,H.out,Turn.refl _ _⟩
 | true =>
  have hr:σ.abort=σ.undone.close:=by unfold StL.abort;rw[ho];rfl
  rw[hr]
  rw[ho] at c4
  have hun:=SUndo_any w F sb b σ K h.loose
  have H:=Lib.hid hun
  clear h hbx hr hun ho
  go_enter Tryz.func26,Tryz.ntmps26
  go_wp2_with fail
  refine H.out.mono ?_
  rintro e w1 ⟨rfl,h1,t1⟩
  have hcl:=SClose_any w1 F sb b σ.undone K h1 rfl
  have HC:=Lib.hid hcl;have T1:=Lib.hid t1
  clear hcl t1 h1
  go_wp2_with fail
  refine HC.out.mono ?_
  rintro e w2 ⟨rfl,h2,t2⟩
  have H2:=Lib.hid h2;have T2:=Lib.hid t2
  clear h2 t2
  go_wp2_with fail
  go_end0
  exact⟨rfl,H2.out,T1.out.trans T2.out⟩
end
section
open Go.RowKit
theorem wrVs_one(l:List WrL):∀u∈wrVs l,u.oneCell'=true:=by
 intro u hu
 obtain⟨d,_,hd⟩:=List.mem_flatMap.1 hu
 simp[encW] at hd
 rcases hd with rfl|rfl<;>simp[Value.oneCell']
theorem Clone_writes(v:Value)(l:List WrL)(w:World)(hv:Sl w v l.length 2 (wrVs l))(hn:l.length≤1000000):
  Calls Tryz.prog 63 #[v] w fun e w'=>∃v',e=.returned v'∧w'.ownsRow w.heap.size 102 2 v' l.length (wrVs l)∧Q w w':=by
 obtain⟨i0,hi,hz0,hz1,hz2⟩:=info_parts tinfoWr
 obtain⟨hxs,a,cap,rfl,hcell⟩:=hv
 have hn2:(wrVs l).length=l.length*2:=hxs
 have hone:=wrVs_one l
 cases a with
 | none =>
  have h0:l.length=0:=by
   by_cases h:l.length=0
   ·exact h
   ·obtain⟨b,off,e,_⟩:=hcell (by omega)
    cases e
  obtain rfl:l=[]:=List.eq_nil_of_length_eq_zero h0
  clear hcell hxs hn2 hone
  go_enter Tryz.func63,Tryz.ntmps63
  go_wp2_with fail
  rw[Lib.run_eql_slice_nil _ _ _ _ _ _ _ _ Tryz.underlying49]
  go_wp2_with fail
  go_ret
  exact⟨_,rfl,World.ownsRow_nil _ _ _ _,Q.refl _⟩
 | some ad =>
  have hcc:∀j u,(wrVs l)[j]?=some u→(w.alloc (.cells #[] 102)).cell? (ad.add j)=some u:=by
   intro j u hu
   have hjl:j<(wrVs l).length:=(List.getElem?_eq_some_iff.1 hu).1
   obtain⟨b,off,e,hc⟩:=hcell (by omega)
   cases e
   rw[show(⟨b,off,none⟩:Addr).add j=⟨b,off+j,none⟩ by unfold Addr.add;split<;>simp_all]
   exact cell_stays (Q.alloc _ _) (hc j u hu)
  have hown:(w.alloc (.cells #[] 102)).ownsRow w.heap.size 102 2 (.slice (some ⟨w.heap.size,0,none⟩) 0 0) 0 []:=⟨rfl,.inr ⟨w.heap.size,0,#[],rfl,Nat.le_refl _,heap_alloc_new _ _,by simp,by unfold maxLen;omega,rfl,rfl⟩⟩
  have h63:0+l.length≤maxLen:=by unfold maxLen;omega
  have hbytes:(0+l.length)*24≤140737488355328:=by omega
  have hbase:w.heap.size≤(w.alloc (.cells #[] 102)).heap.size:=by simp
  generalize wrVs l=xs at *
  clear hcell
  go_enter Tryz.func63,Tryz.ntmps63
  go_wp2_with fail
  rw[Lib.run_eql_slice_nil _ _ _ _ _ _ _ _ Tryz.underlying49]
  go_wp2_with (at_builtin;go_must (refine wpList_append_own (w.alloc (.cells #[] 102)) (by rfl) _ _ 49 (by rfl) w.heap.size 102 i0 (.agg #[.int .i64 0,strV []]) 2 24 Tryz.underlying49 hi hz0 hz1 hz2 rfl (by decide) _ 0 [] (by rfl) hown ad l.length cap xs (by rfl) hn2 hcc hone h63 hbytes hbase ?_))
  intro v' w' ho hg _
  have hb:Below w.heap.size w w':=((Below.refl w.heap.size w).alloc (Nat.le_refl _) _).grown hg hbase (fun k hk=>by simp[Value.ownBlock] at hk;omega)
  have HO:=Lib.hid ho;have HB:=Lib.hid hb
  clear ho hb hg
  go_wp2_with fail
  go_ret
  exact⟨v',rfl,HO.out,HB.out⟩
theorem CommitEnd_any(w:World)(F:Nat→Prop)(sb b eb bs:Nat)(σ:StL)(K:Nat)(err:Int)(h:StUAt w F sb b σ K)(he:Boxed w eb 30 (.int .i64 err))(hb:Boxed w bs 38 (ptrV sb))(heF:¬F eb)(hbF:¬F bs)(htx:err=0→σ.tx=[]):
  CallsD Tryz.prog 65 #[ptrV eb,ptrV bs] .returning w fun e u' w'=>u'=.returning∧(e=.returned (.tuple #[])∧StAt w' F sb b (if err=0 then σ.close else σ.undone.close) K∧Turn F w w'):=by
 have e0:=he.cell;have b0:=hb.cell
 by_cases hz:err=0
 ·subst hz
  have hcl:=SClose_any w F sb b σ K h (htx rfl)
  rw[if_pos rfl]
  have HC:=Lib.hid hcl
  clear hcl h htx he hb heF hbF
  go_enter_d Tryz.func65,Tryz.ntmps65
  go_wp2_with fail
  refine HC.out.mono ?_
  rintro e w2 ⟨rfl,h2,t2⟩
  have H2:=Lib.hid h2;have T2:=Lib.hid t2
  clear h2 t2
  go_wp2_with fail
  go_end0
  exact⟨rfl,H2.out,T2.out⟩
 ·have hun:=SUndo_any w F sb b σ K h
  rw[if_neg hz]
  have e1:(err==0)=false:=beq_eq_false_iff_ne.2 hz
  have HU:=Lib.hid hun;have HB:=Lib.hid hb
  clear hun h htx he hz hb
  go_enter_d Tryz.func65,Tryz.ntmps65
  go_wp2_with fail
  refine HU.out.mono ?_
  rintro e w1 ⟨rfl,h1,t1⟩
  have b1:=t1.cell b0 hbF
  have hcl:=SClose_any w1 F sb b σ.undone K h1 rfl
  have HC:=Lib.hid hcl;have T1:=Lib.hid t1
  clear hcl t1 h1
  go_wp2_with fail
  refine HC.out.mono ?_
  rintro e w2 ⟨rfl,h2,t2⟩
  have H2:=Lib.hid h2;have T2:=Lib.hid t2
  clear h2 t2
  go_wp2_with fail
  go_end0
  exact⟨rfl,H2.out,T1.out.trans T2.out⟩
end
end Go.Proofs.YthcpkgfieoneeaaGreatDoor
