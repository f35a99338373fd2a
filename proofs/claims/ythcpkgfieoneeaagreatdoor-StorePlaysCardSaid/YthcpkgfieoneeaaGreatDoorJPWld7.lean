/- Joined texts of one proof: what is needed of Wld7, WDoes7, WRef7c, Stt7, WBeg7, WBeg7b, WBoth7. -/
import Derived.Test.YthcpkgfieoneeaaGreatDoorJPPly7
import Derived.Test.YthcpkgfieoneeaaGreatDoorJPWStoK
import Derived.Test.YthcpkgfieoneeaaGreatDoorJPWBlkE
import Derived.Test.YthcpkgfieoneeaaGreatDoorJPHlp7
import Derived.Test.YthcpkgfieoneeaaGreatDoorJPWRef7b
import Derived.Test.YthcpkgfieoneeaaGreatDoorJPBitC
import Derived.Test.YthcpkgfieoneeaaGreatDoorJPWRef4h
set_option linter.unusedSimpArgs false
set_option linter.unusedVariables false
set_option linter.unnecessarySimpa false
set_option maxRecDepth 100000
set_option maxHeartbeats 16000000
namespace Go.Proofs.YthcpkgfieoneeaaGreatDoor
section
open Go.RowKit
theorem comPre{K:Nat}{σ:StL}{fr:List (List WrL)}{C:Nat→Bytes}(h:StInv K σ fr C)(hK:K+4<18446744073709551616)(ht:σ.tx≠[]):ComPre σ:=by
 have hw:WrOk σ.tx:=⟨by have:=List.length_pos_iff.2 ht;omega,h.short,fun w hw=>by have:=h.txok w hw;exact⟨by have:=h.max;omega,this.2.2⟩⟩
 have hh:∀w∈σ.tx,2+60≤w.1∧w.1<σ.j.d.l.length:=fun w hw=>by have:=h.txok w hw;exact⟨by omega,this.2.1⟩
 have hn:(σ.j.commit σ.tx).1.d.l.length=σ.n:=JL.commit_len _ _
 rcases commit_run h.inv σ.tx hw hh hK with ⟨a,fr',b⟩|⟨a,b,_⟩
 ·refine⟨fun _ i hi=>?_,fun e=>absurd a e⟩
  rw[b.get i (by omega) (by rw[hn];exact hi.2),h.inv.get i (by omega) hi.2];rfl
 ·exact⟨fun e=>by rw[a] at e;exact absurd e (by decide),fun _=>b⟩
theorem commit_pre{K:Nat}{σ:StL}{fr:List (List WrL)}{C:Nat→Bytes}(h:StInv K σ fr C)(hK:K+4<18446744073709551616):σ.state true=0→σ.tx≠[]→ComPre σ:=fun _ ht=>comPre h hK ht
theorem open_good{K:Nat}{d:DevL}{s:SlotL}{k:Nat}{fr:List (List WrL)}{C:Nat→Bytes}(h:OpenPre 60 K d s k fr C)(hg:GoodC d.l.length C)(hn:128≤d.l.length)(hK:K+3<18446744073709551616)(he:(openJ d).2=0):
  OpenOk d∧StInv (K+1) ⟨(openJ d).1,mapD (openJ d).1.d,[],false,[]⟩ [] C∧(⟨(openJ d).1,mapD (openJ d).1.d,[],false,[]⟩:StL).n=d.l.length:=by
 have hlen:=openJ_len d
 have hm:=h.ok.max
 rcases open_run h hK with ⟨a,b,c,e⟩|⟨a,_⟩
 ·have hf:=firstD_lt d.l.length hn hm
  have hp:=partsN_pos d.l.length (by omega)
  have hmap:mapD (openJ d).1.d=mapC d.l.length C:=by
   unfold mapD mapC
   rw[hlen]
   congr 1
   exact List.map_congr_left (fun i hi=>b.get _ (by omega) (by rw[hlen];have:=List.mem_range.1 hi;unfold firstD at hf;omega))
  have hnn:(⟨(openJ d).1,mapD (openJ d).1.d,[],false,[]⟩:StL).n=d.l.length:=hlen
  refine⟨⟨a,b.num (by decide) (by omega),b.live,by unfold JL.home;rw[b.hlog],hn,b.ok,?_,?_,?_⟩,?_,hnn⟩
  ·rw[b.get 62 (by omega) (by rw[hlen];omega),hg.title]
  ·rw[hmap,cnt_zero _ _ hg.map.low]
  ·rw[hmap]
   have:=cnt_high (mapC d.l.length C) d.l.length (2048*partsN d.l.length-d.l.length) hg.map.high
   rw[show d.l.length+(2048*partsN d.l.length-d.l.length)=2048*partsN d.l.length by omega] at this
   omega
  ·exact⟨b,by rw[hnn];exact hn,by rw[hnn];exact hg,by rw[hnn];show GoodMap _ (mapD _);rw[hmap];exact hg.map,by rw[hnn];exact hmap,List.Pairwise.nil,fun w hw=>by simp at hw,by simp,fun hc=>by simp at hc,fun _=>rfl⟩
 ·rw[a] at he;exact absurd he (by decide)
theorem open_code{K:Nat}{d:DevL}{s:SlotL}{k:Nat}{fr:List (List WrL)}{C:Nat→Bytes}(h:OpenPre 60 K d s k fr C)(hK:K+3<18446744073709551616):
  (openJ d).2=0∨((openJ d).2=4∧(openJ d).1.d.dead=true∧(openJ d).1.d.Ok∧Safe 60 (K+1) (openJ d).1.d (·=C)∧d.fuse ≠ -1):=by
 rcases open_run h hK with ⟨a,_⟩|⟨a,b⟩
 ·exact .inl a
 ·exact .inr ⟨a,b⟩
def WAt(w0 w:World)(wb sb b:Nat)(σ:StL)(K:Nat):Prop :=
 ∃F:Nat→Prop,(∀k,F k→w0.heap.size≤k)∧¬F wb∧StAt w F sb b σ K∧Blk w wb 40 #[ptrV b,ptrV sb]∧Q w0 w
theorem grow_low{F:Nat→Prop}{w0 w w':World}(h:∀k,F k→w0.heap.size≤k)(q:w0.heap.size≤w.heap.size):∀k,grow F w w' k→w0.heap.size≤k:=fun k hk=>hk.elim (h k) (fun hk=>Nat.le_trans q hk.1)
theorem Turn.low{F:Nat→Prop}{w0 w w':World}(t:Turn F w w')(h:∀k,F k→w0.heap.size≤k)(q:Q w0 w):Q w0 w':=t.below q q.size h
theorem WAt.turn{w0 w:World}{wb sb b:Nat}{σ:StL}{K:Nat}(h:WAt w0 w wb sb b σ K):
  ∃F:Nat→Prop,(∀k,F k→w0.heap.size≤k)∧StAt w F sb b σ K∧∀w' σ' K',(StAt w' (grow F w w') sb b σ' K'∧Turn F w w')→WAt w0 w' wb sb b σ' K':=by
 obtain⟨F,hF,hwb,hs,hb,q⟩:=h
 refine⟨F,hF,hs,fun w' σ' K' ⟨h1,t⟩=>⟨grow F w w',grow_low hF q.size,fun hg=>hg.elim hwb (fun hg=>by have:=hb.lt;omega),h1,t.blk hb hwb,t.low hF q⟩⟩
theorem WAt.keep{w0 w w':World}{wb sb b:Nat}{σ:StL}{K:Nat}(h:WAt w0 w wb sb b σ K)(q:Q w w'):WAt w0 w' wb sb b σ K:=by
 obtain⟨F,hF,hwb,hs,hb,q0⟩:=h
 exact⟨F,hF,hwb,hs.keep q,hb.stays q,q0.trans q⟩
theorem WAt.q{w0 w:World}{wb sb b:Nat}{σ:StL}{K:Nat}(h:WAt w0 w wb sb b σ K):Q w0 w:=by
 obtain⟨F,hF,hwb,hs,hb,q0⟩:=h
 exact q0
theorem WAt.mono{w0 w:World}{wb sb b:Nat}{σ:StL}{K K':Nat}(h:WAt w0 w wb sb b σ K)(hk:K≤K'):WAt w0 w wb sb b σ K':=by
 obtain⟨F,hF,hwb,hs,hb,q0⟩:=h
 exact⟨F,hF,hwb,hs.mono (fun _ h=>h) hs.lt hk,hb,q0⟩
theorem WAt.cells{w0 w:World}{wb sb b:Nat}{σ:StL}{K:Nat}(h:WAt w0 w wb sb b σ K):w.cell? ⟨wb,0,none⟩=some (ptrV b)∧w.cell? ⟨wb,1,none⟩=some (ptrV sb):=by
 obtain⟨F,hF,hwb,hs,hb,q0⟩:=h
 exact⟨hb.cell 0 _ rfl,hb.cell 1 _ rfl⟩
section
variable {w0 w:World} {wb sb b:Nat} {σ:StL} {K:Nat}
theorem WAt.write(h:WAt w0 w wb sb b σ K)(i:Int)(s:Bytes)(hn:StNum σ)(hK:K+1≤1000000000000000000)(hs:s.length≤1000000000000):
  Calls Tryz.prog 22 #[ptrV sb,.int .i64 i,strV s] w fun e w'=>e=.returned (.int .i64 (σ.write i s).2)∧WAt w0 w' wb sb b (σ.write i s).1 (K+1):=by
 obtain⟨F,_,hs',ht⟩:=h.turn
 exact(SWrite_any w F sb b σ K i s hs' hn hK hs).mono fun e w' ⟨h1,h2⟩=>⟨h1,ht _ _ _ h2⟩
theorem WAt.alloc(h:WAt w0 w wb sb b σ K)(c:Int)(hn:StNum σ)(hK:K+2≤1000000000000000000):
  Calls Tryz.prog 20 #[ptrV sb,.int .i64 c] w fun e w'=>e=.returned (.tuple #[.int .i64 (σ.alloc c).2.1,.int .i64 (σ.alloc c).2.2])∧WAt w0 w' wb sb b (σ.alloc c).1 (K+2):=by
 obtain⟨F,_,hs',ht⟩:=h.turn
 exact(SAlloc_any w F sb b σ K c hs' hn hK).mono fun e w' ⟨h1,h2⟩=>⟨h1,ht _ _ _ h2⟩
theorem WAt.release(h:WAt w0 w wb sb b σ K)(a c:Int)(hn:StNum σ)(hK:K+2≤1000000000000000000):
  Calls Tryz.prog 25 #[ptrV sb,.int .i64 a,.int .i64 c] w fun e w'=>e=.returned (.int .i64 (σ.release a c).2)∧WAt w0 w' wb sb b (σ.release a c).1 (K+2):=by
 obtain⟨F,_,hs',ht⟩:=h.turn
 exact(SRelease_any w F sb b σ K a c hs' hn hK).mono fun e w' ⟨h1,h2⟩=>⟨h1,ht _ _ _ h2⟩
theorem WAt.begin_(h:WAt w0 w wb sb b σ K):
  Calls Tryz.prog 21 #[ptrV sb] w fun e w'=>e=.returned (.int .i64 σ.begin.2)∧WAt w0 w' wb sb b σ.begin.1 K:=by
 obtain⟨F,_,hs',ht⟩:=h.turn
 exact(SBegin_any w F sb b σ K hs').mono fun e w' ⟨h1,h2⟩=>⟨h1,ht _ _ _ h2⟩
theorem WAt.abort(h:WAt w0 w wb sb b σ K):
  Calls Tryz.prog 26 #[ptrV sb] w fun e w'=>e=.returned (.tuple #[])∧WAt w0 w' wb sb b σ.abort K:=by
 obtain⟨F,_,hs',ht⟩:=h.turn
 exact(SAbort_any w F sb b σ K hs').mono fun e w' ⟨h1,h2,h3⟩=>⟨h1,ht _ _ _ ⟨h2.mono (fun k hk=>.inl hk) (fun k hk=>hk.elim (h2.lt k) (fun hk=>hk.2)) (Nat.le_refl _),h3⟩⟩
theorem WAt.commit(h:WAt w0 w wb sb b σ K)(hn:StNum σ)(hp:σ.state true=0→σ.tx≠[]→ComPre σ):
  Calls Tryz.prog 24 #[ptrV sb] w fun e w'=>e=.returned (.int .i64 σ.commit.2)∧WAt w0 w' wb sb b σ.commit.1 K:=by
 obtain⟨F,_,hs',ht⟩:=h.turn
 exact(SCommit_any w F sb b σ K hs' hn hp).mono fun e w' ⟨h1,h2⟩=>⟨h1,ht _ _ _ h2⟩
theorem WAt.read(h:WAt w0 w wb sb b σ K)(i:Int)(hn:StNum σ)(hK:K≤1000000000000000000):
  Calls Tryz.prog 27 #[ptrV sb,.int .i64 i] w fun e w'=>e=.returned (.tuple #[strV (σ.read i).1,.int .i64 (σ.read i).2])∧WAt w0 w' wb sb b σ (K+1):=by
 obtain⟨F,_,hs',ht⟩:=h.turn
 exact(SRead_any w F sb b σ K i hs' hn hK).mono fun e w' ⟨h1,h2⟩=>⟨h1,ht _ _ _ h2⟩
theorem WAt.free(h:WAt w0 w wb sb b σ K)(hn:StNum σ):
  Calls Tryz.prog 11 #[ptrV sb] w fun e w'=>e=.returned (.int .i64 (σ.free:Nat))∧WAt w0 w' wb sb b σ K:=by
 have h0:=h
 obtain⟨F,_,_,⟨FJ,FC,p,cb,tb,most,clock,ms,mb,m,ti,hg,_⟩,_⟩:=h
 exact(SFree_any hg hn).mono fun e w' ⟨h1,h2⟩=>⟨h1,h0.keep h2⟩
theorem WAt.first(h:WAt w0 w wb sb b σ K)(hn:StNum σ):
  Calls Tryz.prog 19 #[ptrV sb] w fun e w'=>e=.returned (.int .i64 (firstD σ.n:Nat))∧w=w':=by
 obtain⟨F,_,_,⟨FJ,FC,p,cb,tb,most,clock,ms,mb,m,ti,hg,_⟩,_⟩:=h
 exact SFirst_any hg hn.max
theorem WAt.used(h:WAt w0 w wb sb b σ K)(hn:StNum σ):
  Calls Tryz.prog 16 #[ptrV sb] w fun e w'=>∃v,e=.returned v∧w'.ownsRow w.heap.size 64 2 v (usedR σ.map1 (firstD σ.n) σ.n).length (ext (usedR σ.map1 (firstD σ.n) σ.n))∧Q w w'∧WAt w0 w' wb sb b σ K:=by
 have h0:=h
 obtain⟨F,_,_,hs,_⟩:=h
 exact(SUsed_any w F sb b σ K hs hn).mono fun e w' ⟨v,h1,h2,h3⟩=>⟨v,h1,h2,h3,h0.keep h3⟩
end
theorem JrnAt.fuse{w:World}{F:Nat→Prop}{p b:Nat}{j:JL}(h:JrnAt w F p b j)(f:Int):JrnAt (w.setCell ⟨b,2,none⟩ (.int .i64 f)) F p b { j with d:={ j.d with fuse:=f } }∧Turn (fun k=>k=b) w (w.setCell ⟨b,2,none⟩ (.int .i64 f)):=by
 obtain⟨g,cap,pv,hd⟩:=h.dev
 have t:Turn (fun k=>k=b) w (w.setCell ⟨b,2,none⟩ (.int .i64 f)):=Turn.setCell (a:=⟨b,2,none⟩) (Turn.refl (fun k=>k=b) w) (.inl rfl) _
 refine⟨⟨t.blk h.box (blk_ne h.box hd.box (by decide)),h.fp,⟨g,cap,pv,(hd.fuse f).1⟩,fun k hk=>Nat.lt_of_lt_of_le (h.lt k hk) t.size⟩,t⟩
theorem StAt.fuse{w:World}{F:Nat→Prop}{sb b:Nat}{σ:StL}{K:Nat}(h:StAt w F sb b σ K)(f:Int):StAt (w.setCell ⟨b,2,none⟩ (.int .i64 f)) F sb b { σ with j:={ σ.j with d:={ σ.j.d with fuse:=f } } } K∧Turn (fun k=>k=b) w (w.setCell ⟨b,2,none⟩ (.int .i64 f))∧F b:=by
 obtain⟨FJ,FC,p,cb,tb,most,clock,ms,mb,m,ti,hg,hF,hlt,hcl⟩:=h
 obtain⟨hj,t⟩:=hg.jr.fuse f
 have hb:FJ b:=by obtain⟨g,cap,pv,hd⟩:=hg.jr.dev;exact hd.fb
 refine⟨⟨FJ,FC,p,cb,tb,most,clock,ms,mb,m,ti,⟨t.blk hg.box (fun e=>hg.sF.1 (by rw[e];exact hb)),hg.tm.same (t.block _ hg.tm.lt (fun e=>hg.tF.1 (by rw[e];exact hb))),hj,hg.ca.beside t (fun k hk e=>hg.apart b hb (by rw[←e];exact hk)),hg.apart,hg.sF,hg.tF,hg.ok,hg.keys,hg.ints⟩,hF,fun k hk=>Nat.lt_of_lt_of_le (hlt k hk) t.size,hcl⟩,t,hF b (.inl hb)⟩
theorem Fuse_set(w:World)(F:Nat→Prop)(b:Nat)(d:DevL)(n:Int)(h:DevAt w F b d):
  Calls Tryz.prog 33 #[ptrV b,.int .i64 n] w fun e w'=>e=.returned (.tuple #[])∧w'=w.setCell ⟨b,2,none⟩ (.int .i64 (max n (-1))):=by
 obtain⟨g,cap,pv,h⟩:=h
 obtain⟨c0,c1,c2,c3,f0,f1,f2,f3⟩:=h.box.c4
 clear h
 rcases Int.lt_or_le n (-1) with hm|hm
 ·have hm2:max n (-1) = -1:=by omega
  rw[hm2]
  go_enter Tryz.func33,Tryz.ntmps33
  go_wp2
  go_end0
  exact⟨rfl,by first|rfl|rw[hm2]⟩
 ·have hm2:max n (-1)=n:=by omega
  rw[hm2]
  go_enter Tryz.func33,Tryz.ntmps33
  go_wp2
  go_end0
  exact⟨rfl,by first|rfl|rw[hm2]⟩
theorem StAt.dev{w:World}{F:Nat→Prop}{sb b:Nat}{σ:StL}{K:Nat}(h:StAt w F sb b σ K):∃G:Nat→Prop,DevAt w G b σ.j.d∧(∀k,G k→F k):=by
 obtain⟨FJ,FC,p,cb,tb,most,clock,ms,mb,m,ti,hg,hF,hlt,hcl⟩:=h
 exact⟨FJ,hg.jr.dev,fun k hk=>hF k (.inl hk)⟩
theorem WAt.fuse{w0 w:World}{wb sb b:Nat}{σ:StL}{K:Nat}(h:WAt w0 w wb sb b σ K)(n:Int):
  Calls Tryz.prog 33 #[ptrV b,.int .i64 n] w fun e w'=>e=.returned (.tuple #[])∧WAt w0 w' wb sb b (σ.fuse n) K:=by
 obtain⟨F,hF,hwb,hs,hb,q0⟩:=h
 obtain⟨G,hG,_⟩:=hs.dev
 refine(Fuse_set w G b _ n hG).mono ?_
 rintro e w' ⟨rfl,rfl⟩
 obtain⟨h1,t,hfb⟩:=hs.fuse (max n (-1))
 have t':Turn F w (w.setCell ⟨b,2,none⟩ (.int .i64 (max n (-1)))):=t.mono (fun k e=>by rw[e];exact hfb)
 exact⟨rfl,F,hF,hwb,h1,t'.blk hb hwb,t'.low hF q0⟩
theorem WAt.dead{w0 w:World}{wb sb b:Nat}{σ:StL}{K:Nat}(h:WAt w0 w wb sb b σ K):
  Calls Tryz.prog 10 #[ptrV b] w fun e w'=>e=.returned (.bool σ.dead)∧w=w':=by
 obtain⟨F,hF,hwb,hs,hb,q0⟩:=h
 obtain⟨G,hG,_⟩:=hs.dev
 exact Dead_any w G b _ hG
end
section
open Go.RowKit
theorem WAt.call{w0 w wa:World}{wb sb b:Nat}{σ:StL}{K:Nat}(h:WAt w0 w wb sb b σ K)(qa:Q w wa):∃F:Nat→Prop,(∀k,F k→k<w.heap.size)∧¬F wb∧StAt w F sb b σ K ∧
  ∀W w' σ' K',Q wa W→StAt w' (grow F W w') sb b σ' K'→Turn F W w'→WAt w0 w' wb sb b σ' K'∧Turn F wa w':=by
 obtain⟨F,hF,hwb,hs,hb,q0⟩:=h
 refine⟨F,hs.lt,hwb,hs,fun W w' σ' K' q h1 t=>?_⟩
 obtain⟨h2,t2⟩:=StAt.then' (qa.trans q) hs.lt h1 t
 exact⟨⟨grow F w w',grow_low hF q0.size,fun hg=>hg.elim hwb (fun hg=>by have:=hb.lt;omega),h2,t2.blk hb hwb,t2.low hF q0⟩,(Turn.of_q q).trans t⟩
theorem seven{w w':World}(q:Q w w'){a0 a1 a2 a3 a4 a5:Addr}{v0 v1 v2 v3 v4 v5:Value}(h0:w.cell? a0=some v0)(h1:w.cell? a1=some v1)(h2:w.cell? a2=some v2)(h3:w.cell? a3=some v3)(h4:w.cell? a4=some v4)(h5:w.cell? a5=some v5):
  w'.cell? a0=some v0∧w'.cell? a1=some v1∧w'.cell? a2=some v2∧w'.cell? a3=some v3∧w'.cell? a4=some v4∧w'.cell? a5=some v5:=⟨cell_stays q h0,cell_stays q h1,cell_stays q h2,cell_stays q h3,cell_stays q h4,cell_stays q h5⟩
theorem Turn.seven{F:Nat→Prop}{w w':World}(t:Turn F w w'){a0 a1 a2 a3 a4 a5:Addr}{v0 v1 v2 v3 v4 v5:Value}(h0:w.cell? a0=some v0)(h1:w.cell? a1=some v1)(h2:w.cell? a2=some v2)(h3:w.cell? a3=some v3)(h4:w.cell? a4=some v4)(h5:w.cell? a5=some v5)
  (n0:¬F a0.block) (n1:¬F a1.block) (n2:¬F a2.block) (n3:¬F a3.block) (n4:¬F a4.block) (n5:¬F a5.block) :
  w'.cell? a0=some v0∧w'.cell? a1=some v1∧w'.cell? a2=some v2∧w'.cell? a3=some v3∧w'.cell? a4=some v4∧w'.cell? a5=some v5:=⟨t.cell h0 n0,t.cell h1 n1,t.cell h2 n2,t.cell h3 n3,t.cell h4 n4,t.cell h5 n5⟩
theorem Blk.c5{w:World}{k:Nat}{t:TypeId}{a0 a1 a2 a3 a4:Value}(h:Blk w k t #[a0,a1,a2,a3,a4]):
  w.cell? ⟨k,0,none⟩=some a0∧w.cell? ⟨k,1,none⟩=some a1∧w.cell? ⟨k,2,none⟩=some a2∧w.cell? ⟨k,3,none⟩=some a3∧w.cell? ⟨k,4,none⟩=some a4 :=
 ⟨h.cell 0 _ rfl,h.cell 1 _ rfl,h.cell 2 _ rfl,h.cell 3 _ rfl,h.cell 4 _ rfl⟩
abbrev actCs(ka:Option Addr)(kn kc:Nat)(a:Act7):Array Value:=#[.int .i64 a.op,.int .i64 a.at_,.int .i64 a.n,.slice ka kn kc,.int .u8 (a.byte.toNat:Nat)]
abbrev openedS(d:DevL):StL:=⟨(openJ d).1,mapD (openJ d).1.d,[],false,[]⟩
theorem ROpen7_ok(w:World)(F:Nat→Prop)(b:Nat)(d:DevL)(h:RDevAt w F b d)(hF:∀k,F k→k<w.heap.size){K:Nat}{s:SlotL}{kk:Nat}{fr:List (List WrL)}{C:Nat→Bytes}(hop:OpenPre 60 K d s kk fr C)(hg:GoodC d.l.length C)(hn:128≤d.l.length)(hK:K+3<18446744073709551616)(hp:d.p.length≤800000)(he:(openJ d).2=0):
  Calls Tryz.prog 30 #[ptrV b,.int .i64 64] w fun e w'=>∃sb,e=.returned (.tuple #[ptrV sb,.int .i64 0])∧RStAt w' (grow F w w') sb b (openedS d)∧Turn F w w':=by
 obtain⟨hok,hinv,hnn⟩:=open_good hop hg hn hK he
 have hjo:=ROpen_live w F b d h hF hop hK hp (by omega)
 unfold ROpenEnd at hjo
 have hmx:=hop.ok.max
 have hnum:=hinv.num (by omega)
 have hbm:=hinv.bitsK
 have hjp:(openJ d).1.d.p.length≤1000000:=Nat.le_trans hinv.inv.plen (by decide)
 have hj60:(openJ d).1.s.log=60:=hinv.inv.hlog
 have h62:(openedS d).get 62=titleL d.l.length:=by
  rw[hinv.get 62 (by omega) (by rw[hnn];omega)]
  show updC C [] 62=_
  rw[show updC C [] 62=C 62 from rfl,hg.title]
 have hgl:∀i,i<(openedS d).n→((openedS d).get i).length=256:=fun i hi=>DevL.get_len hinv.inv.ok i hi
 have hdd:(openedS d).dead=false:=hok.live
 have hm1:(openedS d).map1.length=256*partsN (openedS d).n:=hnum.map
 have hhigh:=hinv.map.high
 have hlow:=hinv.map.low
 have hst:∀(W:World) (FJ:Nat→Prop) (p sb:Nat),RJrnAt W FJ p b (openJ d).1→Blk W sb 120 #[ptrV p,.bool false,.slice none 0 0]→¬FJ sb→RStG W FJ sb b p (.slice none 0 0) (openedS d):=fun W FJ p sb h1 h2 h3 =>
  ⟨h2,h1,h3,⟨Sl.nil _ _,fun hx=>absurd hx (Nat.lt_irrefl 0)⟩⟩
 have hfd:=firstD_lt d.l.length hn hmx
 rw[hnn] at hbm hm1 hhigh hlow
 have hbl:=fun (W:World) (FJ:Nat→Prop) (p sb:Nat) (hr:RStG W FJ sb b p (.slice none 0 0) (openedS d))=>RBlocks7_any hr
 have hfs:=fun (W:World) (FJ:Nat→Prop) (p sb:Nat) (hr:RStG W FJ sb b p (.slice none 0 0) (openedS d))=>RFirst7_any hr (by rw[hnn];exact hmx)
 have hda:=fun (W:World) (FJ:Nat→Prop) (p sb:Nat) (hr:RStG W FJ sb b p (.slice none 0 0) (openedS d))=>RData7_any hr (by rw[hnn];exact hmx) hdd hjp List.Pairwise.nil (Nat.zero_le 1000) 62 (by rw[hnn];omega)
 have hbi:=fun (W:World) (FJ:Nat→Prop) (p sb:Nat) (hr:RStG W FJ sb b p (.slice none 0 0) (openedS d))=>RBits7_any hr (by rw[hnn];exact hn) (by rw[hnn];exact hmx) hdd hjp List.Pairwise.nil (Nat.zero_le 1000) hgl
 rw[hnn] at hbl hfs hbi
 rw[h62] at hda
 rw[hbm] at hbi
 have hti:=fun (W:World)=>RTitle_any d.l.length W (by omega)
 have hfn:firstN (openedS d).map1 (firstD d.l.length:Nat)=firstD d.l.length:=by unfold firstN;rw[hm1];have:=partsN_pos d.l.length (by omega);omega
 have hfr:=fun (W:World)=>rFree_any (openedS d).map1 (firstD d.l.length:Nat) W (by rw[hm1];omega) (by omega) (by omega)
 rw[hfn,cnt_zero _ _ hlow] at hfr
 have hge:=fun (W:World) (i:Nat) (h1:d.l.length≤i) (h2:i≤100000)=>rget_any (openedS d).map1 (i:Int) W (by rw[hm1];omega) (by omega)
 have hgf:∀i:Nat,d.l.length≤i→bitI (openedS d).map1 (i:Int)=false:=fun i hi=>by rw[bitI_nat];exact hhigh i hi
 have hpn:partsN d.l.length≤2:=hfd.2
 have hpp:=partsN_pos d.l.length (by omega)
 have hlt2:firstD d.l.length<d.l.length:=hfd.1
 have HJO:=Lib.hid hjo;have HST:=Lib.hid hst;have HBL:=Lib.hid hbl;have HFS:=Lib.hid hfs;have HDA:=Lib.hid hda;have HBI:=Lib.hid hbi;have HTI:=Lib.hid hti;have HFR:=Lib.hid hfr;have HGE:=Lib.hid hge;have HGF:=Lib.hid hgf;have HF:=Lib.hid hF;have HE:=Lib.hid he;have HPP:=Lib.hid hpp
 have HJ60:=Lib.hid hj60
 have htitle:=titleL_length d.l.length
 clear hjo hst hbl hfs hda hbi hti hfr hge hgf hF he hpp hj60 hfn hlow hhigh hdd hgl h62 hjp hbm hnum hinv hok hop hg h hK hp hfd hnn
 generalize hns:(openedS d).map1=mp at *
 generalize titleL d.l.length=tl at *
 generalize firstD d.l.length=fd at *
 generalize partsN d.l.length=pn at *
 have hd1:decide (d.l.length<fd)=false:=decide_eq_false (by omega)
 have hd1i:decide ((d.l.length:Int)<(fd:Int))=false:=decide_eq_false (by omega)
 go_enter Tryz.func30,Tryz.ntmps30
 go_wp2_with fail
 refine HJO.out.mono ?_
 rintro e w2 ⟨t2,⟨_,p,rfl,hj2⟩|⟨h0,_⟩⟩
 ·obtain⟨wa,hwa⟩:∃wa,wa=w2.alloc (.cells #[ptrV p,.bool false,.slice none 0 0] 120):=⟨_,rfl⟩
  have qa:Q w2 wa:=by rw[hwa];exact Q.alloc _ _
  have hbx:Blk wa w2.heap.size 120 #[ptrV p,.bool false,.slice none 0 0]:=by rw[hwa];exact Blk.new w2 _ _
  have hnF:¬grow F w w2 w2.heap.size:=fun hc=>by have:=hj2.lt _ hc;omega
  have hr:=HST.out wa _ p w2.heap.size (hj2.keep qa) hbx hnF
  obtain⟨j0,j1,j2,j3,_⟩:=(hj2.keep qa).box.c8
  rw[HJ60.out] at j3
  have HR:=Lib.hid hr;have T2:=Lib.hid t2;have QA:=Lib.hid qa
  have hsz:w2.heap.size<wa.heap.size:=hbx.lt
  have hlt:∀k,grow F w w2 k→k<w2.heap.size:=hj2.lt
  have HLT:=Lib.hid hlt
  clear hr hbx hnF hj2 t2 qa j1 j2 j0 hlt
  go_wp2_with fail
  rw[←hwa]
  clear hwa
  refine(HBL.out _ _ _ _ HR.out).mono ?_
  rintro e w3 ⟨rfl,rfl⟩
  go_wp2_with fail
  refine(HFS.out _ _ _ _ HR.out).mono ?_
  rintro e w3 ⟨rfl,rfl⟩
  go_wp2_with fail
  refine(HDA.out _ _ _ _ HR.out).mono ?_
  rintro e w3 ⟨rfl,q3⟩
  have HR3:=Lib.hid (HR.out.keep q3);have QA3:=Lib.hid (QA.out.trans q3)
  have hz3:=q3.size
  clear q3 HR j3
  go_wp2_with fail
  refine(HTI.out _).mono ?_
  rintro e w4 ⟨rfl,q4⟩
  have HR4:=Lib.hid (HR3.out.keep q4);have QA4:=Lib.hid (QA3.out.trans q4)
  have hz4:=q4.size
  clear q4 HR3 QA3
  go_wp2_with fail
  refine(HBI.out _ _ _ _ HR4.out).mono ?_
  rintro e w5 ⟨rfl,q5⟩
  have HR5:=Lib.hid (HR4.out.keep q5);have QA5:=Lib.hid (QA4.out.trans q5)
  have hz5:=q5.size
  clear q5 HR4 QA4
  go_wp2_with fail
  refine(HFS.out _ _ _ _ HR5.out).mono ?_
  rintro e w6 ⟨rfl,rfl⟩
  go_wp2_with fail
  refine(HFR.out _).mono ?_
  rintro e w6 ⟨rfl,rfl⟩
  go_wp2_with fail
  have hb8:(8:Int)*(mp.length:Int)≤100000:=by omega
  have hb8n:d.l.length≤8*mp.length:=by have:=HPP.out;omega
  have HB8:=Lib.hid hb8n
  clear hb8n
  go_loop [11] (fun v=>∃k:Nat,v=.int .i64 (k:Nat)∧d.l.length≤k∧k≤8*mp.length) (fun v=>8*mp.length-(intOf v).toNat)
  case atStart=>exact⟨d.l.length,rfl,Nat.le_refl _,HB8.out⟩
  case round =>
   obtain⟨k,rfl,hk1,hk2⟩:=hrel
   by_cases hlt:k<8*mp.length
   ·have hki:(k:Int)<8*(mp.length:Int):=by omega
    have hg1:=fun (W:World)=>HGE.out W k hk1 (by omega)
    rw[HGF.out k hk1] at hg1
    have HG1:=Lib.hid hg1
    clear hg1
    go_wp2_with fail
    refine(HG1.out _).mono ?_
    rintro e w7 ⟨rfl,rfl⟩
    go_wp2_with fail
    go_round
    case rel=>exact⟨k+1,by go_num,by omega,by omega⟩
    case measure=>simp[intOf];omega
   ·have hki:¬(k:Int)<8*(mp.length:Int):=by omega
    go_wp2_with fail
    go_ret2
    have hw2:=T2.out.size;have hqa:=QA5.out.size
    refine⟨_,rfl,⟨grow F w w2,p,.slice none 0 0,HR5.out,fun k hk=>?_,fun g off n cap e=>by simp at e,fun k hk=>?_⟩,T2.out.trans (Turn.of_q QA5.out)⟩
    ·rcases hk with (hk|hk)|hk
     ·exact .inl hk
     ·exact .inr ⟨hk.1,by omega⟩
     ·subst hk;exact .inr ⟨by omega,by omega⟩
    ·rcases hk with hk|hk
     ·have:=HF.out k hk;omega
     ·exact hk.2
 ·exact absurd HE.out h0
end
section
open Go.RowKit
theorem usedK_eq(n:Nat)(b:Bytes)(h:firstD n≤n):usedK n b=(List.range' (firstD n) (n-firstD n)).filter fun i=>bit b i:=by
 unfold usedK
 have e:List.range n=List.range (firstD n)++List.range' (firstD n) (n-firstD n):=by
  rw[List.range_eq_range',List.range_eq_range',show List.range' (firstD n) (n-firstD n)=List.range' (0+firstD n) (n-firstD n) by rw[Nat.zero_add],List.range'_append_1]
  congr 1;omega
 rw[e,List.filter_append]
 have h1:(List.range (firstD n)).filter (fun k=>decide (firstD n≤k)&&bit b k)=[]:=by
  refine List.filter_eq_nil_iff.2 (fun k hk=>?_)
  have:=List.mem_range.1 hk
  simp;omega
 rw[h1,List.nil_append]
 refine List.filter_congr (fun k hk=>?_)
 have:=(List.mem_range'_1.1 hk).1
 simp[this]
def tellR(f:Nat→Bytes)(rs:List (Nat×Nat)):Bytes:=rs.flatMap fun r=>(List.range' r.1 r.2).flatMap (chunk f)
theorem tellR_eq(n:Nat)(b:Bytes)(f:Nat→Bytes)(h:firstD n≤n)(hlow:∀i,i<firstD n→bit b i=true):tellR f (usedR b (firstD n) n)=tellL n b f:=by
 rw[usedR_eq b (firstD n) n hlow h,tell_chunks,usedK_eq n b h,←used_flat,tellR,List.flatMap_assoc]
theorem tellR_snoc(f:Nat→Bytes)(rs:List (Nat×Nat))(r:Nat×Nat):tellR f (rs++[r])=tellR f rs++(List.range' r.1 r.2).flatMap (chunk f):=by simp[tellR]
theorem used_count(b:Bytes)(lo k:Nat):(usedL b lo k).length≤k:=by
 induction k with
 | zero=>simp[usedL]
 | succ k ih =>
  rw[usedL]
  split
  ·split
   ·split
    ·simp;omega
    ·simp;omega
   ·simp
  ·omega
theorem StAt.beside{w w':World}{F G:Nat→Prop}{sb b:Nat}{σ:StL}{K:Nat}(h:StAt w F sb b σ K)(t:Turn G w w')(hd:∀k,F k→¬G k):StAt w' F sb b σ K:=by
 obtain⟨FJ,FC,p,cb,tb,most,clock,ms,mb,m,ti,hg,hF,hlt,hcl⟩:=h
 refine⟨FJ,FC,p,cb,tb,most,clock,ms,mb,m,ti,⟨t.blk hg.box (hd _ (hF _ (.inr (.inr (.inl rfl))))),hg.tm.same (t.block _ hg.tm.lt (hd _ (hF _ (.inr (.inr (.inr rfl)))))),hg.jr.beside t (fun k hk=>hd k (hF k (.inl hk))),hg.ca.beside t (fun k hk=>hd k (hF k (.inr (.inl hk)))),hg.apart,hg.sF,hg.tF,hg.ok,hg.keys,hg.ints⟩,hF,fun k hk=>Nat.lt_of_lt_of_le (hlt k hk) t.size,hcl⟩
structure SttAt (w wr:World) (F FZ:Nat→Prop) (sb b:Nat) (σ:StL) (K:Nat) (uv:Value) (rs:List (Nat×Nat)) (bv:Value) (acc:Bytes):Prop where
 st:StAt wr FZ sb b σ K
 sub:∀k,FZ k→grow F w wr k
 turn:Turn F w wr
 u:wr.ownsRow w.heap.size 64 2 uv rs.length (ext rs)
 ub:∀g,uv.ownBlock=some g→¬FZ g
 bo:wr.ownsRow w.heap.size 5 1 bv acc.length (byteVs acc)
 bb:∀g,bv.ownBlock=some g→¬FZ g
section
variable {w wr:World} {F FZ:Nat→Prop} {sb b:Nat} {σ:StL} {K:Nat} {uv:Value} {rs:List (Nat×Nat)} {bv:Value} {acc:Bytes}
theorem SttAt.read(h:SttAt w wr F FZ sb b σ K uv rs bv acc)(i:Int)(hn:StNum σ)(hK:K≤1000000000000000000):
  Calls Tryz.prog 27 #[ptrV sb,.int .i64 i] wr fun e w'=>e=.returned (.tuple #[strV (σ.read i).1,.int .i64 (σ.read i).2])∧SttAt w w' F (grow FZ wr w') sb b σ (K+1) uv rs bv acc:=by
 refine(SRead_any wr FZ sb b σ K i h.st hn hK).mono ?_
 rintro e w' ⟨rfl,h1,t⟩
 have hw:=h.turn.size
 refine⟨rfl,h1,fun k hk=>?_,?_,t.owns h.u h.ub,fun g hg hf=>?_,t.owns h.bo h.bb,fun g hg hf=>?_⟩
 ·rcases hk with hk|hk
  ·rcases h.sub k hk with hk|hk
   ·exact .inl hk
   ·exact .inr ⟨hk.1,by have:=t.size;omega⟩
  ·exact .inr ⟨by omega,hk.2⟩
 ·exact h.turn.step (t.mono h.sub)
 ·rcases hf with hf|hf
  ·exact h.ub g hg hf
  ·have:=(h.u.lt g hg).2;omega
 ·rcases hf with hf|hf
  ·exact h.bb g hg hf
  ·have:=(h.bo.lt g hg).2;omega
theorem SttAt.app{w':World}{bv':Value}{acc':Bytes}(h:SttAt w wr F FZ sb b σ K uv rs bv acc)(ho:w'.ownsRow w.heap.size 5 1 bv' acc'.length (byteVs acc'))(hg:wr.grownBy w' bv.ownBlock)(hf:bv'.ownBlock=bv.ownBlock∨∃g,bv'.ownBlock=some g∧wr.heap.size≤g):SttAt w w' F FZ sb b σ K uv rs bv' acc':=by
 have t:Turn (fun k=>bv.ownBlock=some k) wr w':=⟨hg.os,hg.tape,hg.output,hg.size,fun k h1 h2=>hg.block k h1 (fun e=>h2 e.symm)⟩
 refine⟨h.st.beside t (fun k hk e=>h.bb k e hk),fun k hk=>(h.sub k hk).elim .inl (fun hk=>.inr ⟨hk.1,by have:=t.size;omega⟩),h.turn.grown h.bo hg (Nat.le_refl _),row_beside h.u h.bo hg (by decide),h.ub,ho,fun g e hk=>?_⟩
 rcases hf with hf|⟨g2,e2,hf⟩
 ·exact h.bb g (hf▸e) hk
 ·rw[e2] at e
  simp only[Option.some.injEq] at e
  subst e
  have:=h.st.lt _ hk;omega
theorem SttAt.keep{w':World}(h:SttAt w wr F FZ sb b σ K uv rs bv acc)(q:Q wr w'):SttAt w w' F FZ sb b σ K uv rs bv acc :=
 ⟨h.st.keep q,fun k hk=>(h.sub k hk).elim .inl (fun hk=>.inr ⟨hk.1,by have:=q.size;omega⟩),h.turn.q q,ownsRow_below h.u q,h.ub,ownsRow_below h.bo q,h.bb⟩
theorem SttAt.done(h:SttAt w wr F FZ sb b σ K uv rs bv acc)(hF:∀k,F k→k<w.heap.size){K':Nat}(hK:K≤K'):StAt wr (grow F w wr) sb b σ K'∧Turn F w wr :=
 ⟨h.st.mono h.sub (fun k hk=>hk.elim (fun hk=>Nat.lt_of_lt_of_le (hF k hk) h.turn.size) (fun hk=>hk.2)) hK,h.turn⟩
theorem SttAt.cells(h:SttAt w wr F FZ sb b σ K uv rs bv acc):∃a cap,uv=.slice a rs.length cap∧∀k (hk:k<rs.length),∃g off,a=some ⟨g,off,none⟩∧wr.cell? ⟨g,off+k*2,none⟩=some (.int .i64 (rs[k].1:Nat))∧wr.cell? ⟨g,off+k*2+1,none⟩=some (.int .i64 (rs[k].2:Nat)):=by
 obtain⟨_,a,cap,e,hc⟩:=Sl.of_owns h.u
 refine⟨a,cap,e,fun k hk=>?_⟩
 obtain⟨g,off,e,hc⟩:=hc (by omega)
 have h1:=ext_at rs k hk
 exact⟨g,off,e,by have:=hc _ _ h1.1;rwa [Nat.mul_comm] at this,by have:=hc _ _ h1.2;rwa [Nat.mul_comm,←Nat.add_assoc] at this⟩
end
theorem own_none(w:World)(e:TypeId)(hs:(0:Nat)<1):(w.alloc (.cells #[] e)).ownsRow w.heap.size e 1 (.slice (some ⟨w.heap.size,0,none⟩) 0 0) 0 [] :=
 ⟨by simp,.inr ⟨w.heap.size,0,#[],rfl,Nat.le_refl _,heap_alloc_new _ _,by simp,by unfold maxLen;omega,by simp,by simp⟩⟩
theorem tinfoU8s:(Tryz.prog.info? 5).map (fun i=>(i.zero,i.size,i.bytes))=some (some (.int .u8 0),1,1):=by kernel_rfl
end
section
open Go.RowKit
abbrev startS(n:Nat):StL:=openedS (formatS (DevL.new n)).1
theorem start_all(n:Nat)(h:128≤n)(hm:n≤4096):(openJ (formatS (DevL.new n)).1).2=0∧OpenOk (formatS (DevL.new n)).1∧StInv 5 (startS n) [] (updC (fun _=>noughtsL) (formatT n))∧(startS n).n=n∧(startS n).j.d.Free∧(startS n).map1=bits0 n:=by
 obtain⟨_,hf,hl,hok,⟨s,k,fr,hp⟩,hg,hmp,_⟩:=format_run2 n h hm
 have hz:(openJ (formatS (DevL.new n)).1).2=0:=by
  rcases open_code hp (by decide) with e|⟨_,_,_,_,e⟩
  ·exact e
  ·exact absurd hf.1 e
 obtain⟨o1,o2,o3⟩:=open_good hp (by rw[hl];exact hg) (by rw[hl];exact h) (by decide) hz
 have hfr:(startS n).j.d.Free:=by
  rcases open_run hp (by decide) with ⟨_,x,_,y⟩|⟨e,_⟩
  ·exact⟨y hf.1,x.live⟩
  ·rw[e] at hz;exact absurd hz (by decide)
 refine⟨hz,o1,o2,by rw[o3,hl],hfr,?_⟩
 have:=o2.now
 rw[o3,hl] at this
 rw[this];exact hmp
theorem Formatted_any(w:World)(n most:Nat)(h1:128≤n)(h2:n≤4096)(hm:64≤most∧most≤1024):
  Calls Tryz.prog 18 #[.int .i64 (n:Nat),.int .i64 (most:Nat)] w fun e w'=>∃sb b,e=.returned (.tuple #[ptrV b,ptrV sb,.bool true])∧StAt w' (fun k=>w.heap.size≤k∧k<w'.heap.size) sb b (startS n) 0∧Q w w':=by
 obtain⟨hz,hoo,_,_,_,_⟩:=start_all n h1 h2
 obtain⟨_,hf,hl,hok,_,_,_,hpl⟩:=format_run2 n h1 h2
 have hnw:=New_any w n (by omega) h2
 have hfm:=fun (W:World) (F:Nat→Prop) (b:Nat) (h:DevAt W F b (DevL.new n)) (hF:∀k,F k→k<W.heap.size)=>SFormat_new W F b n h hF h1 h2
 have hop:=fun (W:World) (F:Nat→Prop) (b:Nat) (h:DevAt W F b (formatS (DevL.new n)).1) (hF:∀k,F k→k<W.heap.size)=>SOpen_ok W F b (formatS (DevL.new n)).1 most h hF hok (fun _=>by omega) hm hoo
 have HNW:=Lib.hid hnw;have HFM:=Lib.hid hfm;have HOP:=Lib.hid hop
 clear hnw hfm hop hz hoo hf hl hok hpl
 go_enter Tryz.func18,Tryz.ntmps18
 go_wp2_with fail
 refine HNW.out.mono ?_
 rintro e w1 ⟨rfl,hd1,q1⟩
 have hf:=HFM.out w1 _ _ hd1 (fun k hk=>hk.2)
 have HF:=Lib.hid hf;have Q1:=Lib.hid q1
 clear hf hd1 q1
 go_wp2_with fail
 refine HF.out.mono ?_
 rintro e w2 ⟨rfl,hd2,t2⟩
 have ho:=HOP.out w2 _ _ hd2 (fun k hk=>hk.elim (fun hk=>Nat.lt_of_lt_of_le hk.2 t2.size) (fun hk=>hk.2))
 have HO:=Lib.hid ho;have T2:=Lib.hid t2
 clear ho hd2 t2
 go_wp2_with fail
 refine HO.out.mono ?_
 rintro e w3 ⟨sb,rfl,h3,t3⟩
 have H3:=Lib.hid h3;have T3:=Lib.hid t3
 clear h3 t3
 go_wp2_with fail
 go_ret3
 have hs1:=Q1.out.size;have hs2:=T2.out.size;have hs3:=T3.out.size
 refine⟨_,_,rfl,H3.out.mono (fun k hk=>?_) (fun k hk=>hk.2) (Nat.le_refl _),?_⟩
 ·rcases hk with (hk|hk)|hk
  ·exact⟨hk.1,by omega⟩
  ·exact⟨by omega,by omega⟩
  ·exact⟨by omega,hk.2⟩
 ·refine T3.out.low (fun k hk=>?_) (T2.out.low (fun k hk=>hk.1) Q1.out)
  rcases hk with hk|hk
  ·exact hk.1
  ·omega
def BothAt(w0 w:World)(wb sb b:Nat)(σ:StL)(K:Nat)(mb rs rb:Nat)(τ:StL):Prop :=
 ∃F G:Nat→Prop,(∀k,F k→w0.heap.size≤k)∧(∀k,G k→w0.heap.size≤k)∧(∀k,F k→¬G k)∧¬F wb∧¬G wb∧¬F mb∧¬G mb∧StAt w F sb b σ K∧RStAt w G rs rb τ ∧
  Blk w wb 40 #[ptrV b,ptrV sb]∧Blk w mb 45 #[ptrV rb,ptrV rs]∧Q w0 w∧w0.heap.size≤wb∧w0.heap.size≤mb
theorem BothAt.w{w0 w:World}{wb sb b:Nat}{σ:StL}{K:Nat}{mb rs rb:Nat}{τ:StL}(h:BothAt w0 w wb sb b σ K mb rs rb τ):WAt w0 w wb sb b σ K:=by
 obtain⟨F,G,f,g,d,n1,n2,n3,n4,h1,h2,b1,b2,q,_⟩:=h
 exact⟨F,f,n1,h1,b1,q⟩
theorem RStAt.mono{w:World}{F G:Nat→Prop}{sb b:Nat}{σ:StL}(h:RStAt w F sb b σ)(k:∀i,F i→G i)(hl:∀i,G i→i<w.heap.size):RStAt w G sb b σ:=by
 obtain⟨FJ,p,tv,h1,h2,h3,h4⟩:=h
 exact⟨FJ,p,tv,h1,fun i hi=>k i (h2 i hi),fun g off n cap e hn=>k g (h3 g off n cap e hn),hl⟩
theorem Begin7_any(w:World)(most:Nat)(hm:64≤most∧most≤1024):
  Calls Tryz.prog 7 #[.int .i64 (most:Nat)] w fun e w'=>∃wb sb b mb rs rb,e=.returned (.tuple #[ptrV wb,ptrV mb,.bool true])∧BothAt w w' wb sb b (startS 132) 0 mb rs rb (startS 132):=by
 obtain⟨hz,hoo,_,_,_,_⟩:=start_all 132 (by decide) (by decide)
 obtain⟨_,hf,hl,hok,⟨s,k,fr,hpre⟩,hgc,_,hpl⟩:=format_run2 132 (by decide) (by decide)
 have hfo:=Formatted_any w 132 most (by decide) (by decide) hm
 have hnw:=fun (W:World)=>RNew_any W 132 (by decide) (by decide)
 have hfm:=fun (W:World) (F:Nat→Prop) (b:Nat) (h:RDevAt W F b (DevL.new 132)) (hF:∀k,F k→k<W.heap.size)=>RFormat7_new W F b 132 h hF (by decide) (by decide)
 have hop:=fun (W:World) (F:Nat→Prop) (b:Nat) (h:RDevAt W F b (formatS (DevL.new 132)).1) (hF:∀k,F k→k<W.heap.size)=>ROpen7_ok W F b (formatS (DevL.new 132)).1 h hF hpre (by rw[hl];exact hgc) (by omega) (by decide) (by omega) hz
 have HFO:=Lib.hid hfo;have HNW:=Lib.hid hnw;have HFM:=Lib.hid hfm;have HOP:=Lib.hid hop
 clear hfo hnw hfm hop hz hoo hf hl hok hpre hgc hpl
 have e132:((132:Nat):Int)=132:=rfl
 rw[e132] at HFO HNW
 go_enter Tryz.func7,Tryz.ntmps7
 go_wp2_with fail
 refine HFO.out.mono ?_
 rintro e w1 ⟨sb,b,rfl,h1,q1⟩
 have H1:=Lib.hid h1;have Q1:=Lib.hid q1
 clear h1 q1
 go_wp2_with fail
 refine(HNW.out _).mono ?_
 rintro e w2 ⟨rfl,hd2,q2⟩
 have hf:=HFM.out w2 _ _ hd2 (fun k hk=>hk.2)
 have HF:=Lib.hid hf;have Q2:=Lib.hid q2
 clear hf hd2 q2
 go_wp2_with fail
 refine HF.out.mono ?_
 rintro e w3 ⟨rfl,hd3,t3⟩
 have ho:=HOP.out w3 _ _ hd3 (fun k hk=>hk.elim (fun hk=>Nat.lt_of_lt_of_le hk.2 t3.size) (fun hk=>hk.2))
 have HO:=Lib.hid ho;have T3:=Lib.hid t3
 clear ho hd3 t3
 go_wp2_with fail
 refine HO.out.mono ?_
 rintro e w4 ⟨rs,rfl,h4,t4⟩
 have H4:=Lib.hid h4;have T4:=Lib.hid t4
 clear h4 t4
 go_wp2_with fail
 go_ret3
 have hs1:=Q1.out.size;have hs2:=Q2.out.size;have hs3:=T3.out.size;have hs4:=T4.out.size
 have hlow3:Q w1 w3:=T3.out.low (fun k hk=>hk.1) Q2.out
 have hlow4:Q w1 w4:=T4.out.low (fun k hk=>hk.elim (fun hk=>hk.1) (fun hk=>by omega)) hlow3
 have hq5:=Q.alloc w4 (.cells #[ptrV b,ptrV sb] 40)
 have hb5:=Blk.new w4 40 #[ptrV b,ptrV sb]
 generalize hw5:w4.alloc (.cells #[ptrV b,ptrV sb] 40)=w5 at *
 have hz5:w5.heap.size=w4.heap.size+1:=by rw[←hw5];simp
 have hq6:=Q.alloc w5 (.cells #[ptrV w1.heap.size,ptrV rs] 45)
 have hb6:=Blk.new w5 45 #[ptrV w1.heap.size,ptrV rs]
 refine⟨w4.heap.size,sb,b,w5.heap.size,rs,w1.heap.size,by rw[hz5];rfl,fun k=>w.heap.size≤k∧k<w1.heap.size,fun k=>w1.heap.size≤k∧k<w4.heap.size,fun k hk=>hk.1,fun k hk=>by have:=hk.1;omega,fun k hk hk2=>by have:=hk.2;have:=hk2.1;omega,fun hk=>by have:=hk.2;omega,fun hk=>by have:=hk.2;omega,fun hk=>by have:=hk.2;omega,fun hk=>by have:=hk.2;omega,?_,?_,hb5.stays hq6,hb6,Q1.out.trans ((hlow4.trans hq5).trans hq6),by omega,by omega⟩
 ·exact H1.out.keep ((hlow4.trans hq5).trans hq6)
 ·exact(H4.out.mono (fun k hk=>by
   rcases hk with (hk|hk)|hk
   ·exact⟨hk.1,by omega⟩
   ·exact⟨by omega,by omega⟩
   ·exact⟨by omega,hk.2⟩) (fun k hk=>hk.2)).keep (hq5.trans hq6)
end
section
open Go.RowKit
theorem SlO.beside{w w':World}{F G:Nat→Prop}{v:Value}{n size:Nat}{xs:List Value}(h:SlO w F v n size xs)(t:Turn G w w')(hd:∀g off cap,v=.slice (some ⟨g,off,none⟩) n cap→0<n→¬G g):SlO w' F v n size xs:=by
 obtain⟨⟨hl,a,cap,rfl,hc⟩,h2⟩:=h
 refine⟨⟨hl,a,cap,rfl,fun hn=>?_⟩,fun hn=>?_⟩
 ·obtain⟨b,off,rfl,hcell⟩:=hc hn
  exact⟨b,off,rfl,fun j u hj=>t.cell (hcell j u hj) (hd b off cap rfl hn)⟩
 ·obtain⟨b,off,e,hb,hF⟩:=h2 hn
  exact⟨b,off,e,Nat.lt_of_lt_of_le hb t.size,hF⟩
theorem RStAt.beside{w w':World}{F G:Nat→Prop}{sb b:Nat}{σ:StL}(h:RStAt w F sb b σ)(t:Turn G w w')(hd:∀k,F k→¬G k):RStAt w' F sb b σ:=by
 obtain⟨FJ,p,tv,h1,h2,h3,h4⟩:=h
 exact⟨FJ,p,tv,⟨t.blk h1.box (hd sb (h2 sb (.inr rfl))),h1.jr.beside t (fun k hk=>hd k (h2 k (.inl hk))),h1.sF,h1.tx.beside t (fun g off cap e hn=>hd g (h3 g off _ cap e hn))⟩,h2,h3,fun k hk=>Nat.lt_of_lt_of_le (h4 k hk) t.size⟩
theorem RStAt.lt{w:World}{F:Nat→Prop}{sb b:Nat}{σ:StL}(h:RStAt w F sb b σ):∀k,F k→k<w.heap.size:=by
 obtain⟨FJ,p,tv,h1,h2,h3,h4⟩:=h
 exact h4
theorem RStAt.then'{w w2 w3:World}{F:Nat→Prop}{sb b:Nat}{σ:StL}(q:Q w w2)(hl:∀k,F k→k<w.heap.size)(h:RStAt w3 (grow F w2 w3) sb b σ)(t2:Turn F w2 w3):RStAt w3 (grow F w w3) sb b σ∧Turn F w w3:=by
 have hq:=q.size;have ht:=t2.size
 exact⟨h.mono (fun k hk=>hk.elim .inl (fun hk=>.inr ⟨by omega,hk.2⟩)) (fun k hk=>hk.elim (fun hk=>by have:=hl k hk;omega) (fun hk=>hk.2)),(Turn.of_q q).trans t2⟩
def B7(M:Nat×Nat×Nat×StL)(w0 w:World)(wb sb b:Nat)(σ:StL)(K:Nat):Prop:=BothAt w0 w wb sb b σ K M.1 M.2.1 M.2.2.1 M.2.2.2
def M7(M:Nat×Nat×Nat×StL×Nat)(w0 w:World)(mb rs rb:Nat)(τ:StL):Prop:=BothAt w0 w M.1 M.2.1 M.2.2.1 M.2.2.2.1 M.2.2.2.2 mb rs rb τ
section
variable {w0 w w' wa:World} {wb sb b mb rs rb K K':Nat} {σ τ:StL} {M:Nat×Nat×Nat×StL} {N:Nat×Nat×Nat×StL×Nat}
theorem BothAt.keep(h:BothAt w0 w wb sb b σ K mb rs rb τ)(q:Q w w'):BothAt w0 w' wb sb b σ K mb rs rb τ:=by
 obtain⟨F,G,f,g,d,n1,n2,n3,n4,h1,h2,b1,b2,q0,hz0⟩:=h
 exact⟨F,G,f,g,d,n1,n2,n3,n4,h1.keep q,h2.keep q,b1.stays q,b2.stays q,q0.trans q,hz0⟩
theorem BothAt.mono(h:BothAt w0 w wb sb b σ K mb rs rb τ)(hK:K≤K'):BothAt w0 w wb sb b σ K' mb rs rb τ:=by
 obtain⟨F,G,f,g,d,n1,n2,n3,n4,h1,h2,b1,b2,q0,hz0⟩:=h
 exact⟨F,G,f,g,d,n1,n2,n3,n4,h1.mono (fun k hk=>hk) h1.lt hK,h2,b1,b2,q0,hz0⟩
theorem BothAt.q(h:BothAt w0 w wb sb b σ K mb rs rb τ):Q w0 w:=by
 obtain⟨F,G,f,g,d,n1,n2,n3,n4,h1,h2,b1,b2,q0,hz0⟩:=h
 exact q0
theorem BothAt.cells(h:BothAt w0 w wb sb b σ K mb rs rb τ):(w.cell? ⟨wb,0,none⟩=some (ptrV b)∧w.cell? ⟨wb,1,none⟩=some (ptrV sb))∧w.cell? ⟨mb,0,none⟩=some (ptrV rb)∧w.cell? ⟨mb,1,none⟩=some (ptrV rs):=by
 obtain⟨F,G,f,g,d,n1,n2,n3,n4,h1,h2,b1,b2,q0,hz0⟩:=h
 exact⟨⟨b1.cell 0 _ rfl,b1.cell 1 _ rfl⟩,b2.cell 0 _ rfl,b2.cell 1 _ rfl⟩
theorem BothAt.call(h:BothAt w0 w wb sb b σ K mb rs rb τ)(qa:Q w wa):∃F:Nat→Prop,(∀k,F k→k<w.heap.size)∧¬F wb∧StAt w F sb b σ K ∧
  ∀W w' σ' K',Q wa W→StAt w' (grow F W w') sb b σ' K'→Turn F W w'→BothAt w0 w' wb sb b σ' K' mb rs rb τ∧Turn F wa w':=by
 obtain⟨F,G,f,g,d,n1,n2,n3,n4,h1,h2,b1,b2,q0,hz0⟩:=h
 refine⟨F,h1.lt,n1,h1,fun W w' σ' K' q h3 t=>?_⟩
 obtain⟨h4,t2⟩:=StAt.then' (qa.trans q) h1.lt h3 t
 have hz:=t2.size
 exact⟨⟨grow F w w',G,grow_low f q0.size,g,fun k hk hg=>hk.elim (fun hk=>d k hk hg) (fun hk=>by have:=h2.lt k hg;omega),fun hg=>hg.elim n1 (fun hg=>by have:=b1.lt;omega),n2,fun hg=>hg.elim n3 (fun hg=>by have:=b2.lt;omega),n4,h4,h2.beside t2 (fun k hk e=>d k e hk),t2.blk b1 n1,t2.blk b2 n3,t2.low f q0,hz0⟩,(Turn.of_q q).trans t⟩
theorem BothAt.mcall(h:BothAt w0 w wb sb b σ K mb rs rb τ)(qa:Q w wa):∃G:Nat→Prop,(∀k,G k→k<w.heap.size)∧¬G mb∧RStAt w G rs rb τ ∧
  ∀W w' τ',Q wa W→RStAt w' (grow G W w') rs rb τ'→Turn G W w'→BothAt w0 w' wb sb b σ K mb rs rb τ'∧Turn G wa w':=by
 obtain⟨F,G,f,g,d,n1,n2,n3,n4,h1,h2,b1,b2,q0,hz0⟩:=h
 refine⟨G,h2.lt,n4,h2,fun W w' τ' q h3 t=>?_⟩
 obtain⟨h4,t2⟩:=RStAt.then' (qa.trans q) h2.lt h3 t
 have hz:=t2.size
 exact⟨⟨F,grow G w w',f,grow_low g q0.size,fun k hk hg=>hg.elim (fun hg=>d k hk hg) (fun hg=>by have:=h1.lt k hk;omega),n1,fun hg=>hg.elim n2 (fun hg=>by have:=b1.lt;omega),n3,fun hg=>hg.elim n4 (fun hg=>by have:=b2.lt;omega),h1.beside t2 (fun k hk e=>d k hk e),h4,t2.blk b1 n2,t2.blk b2 n4,t2.low g q0,hz0⟩,(Turn.of_q q).trans t⟩
theorem B7.keep(h:B7 M w0 w wb sb b σ K)(q:Q w w'):B7 M w0 w' wb sb b σ K:=BothAt.keep h q
theorem B7.mono(h:B7 M w0 w wb sb b σ K)(hK:K≤K'):B7 M w0 w wb sb b σ K':=BothAt.mono h hK
theorem B7.cells(h:B7 M w0 w wb sb b σ K):w.cell? ⟨wb,0,none⟩=some (ptrV b)∧w.cell? ⟨wb,1,none⟩=some (ptrV sb):=(BothAt.cells h).1
theorem B7.call(h:B7 M w0 w wb sb b σ K)(qa:Q w wa):∃F:Nat→Prop,(∀k,F k→k<w.heap.size)∧¬F wb∧StAt w F sb b σ K ∧
  ∀W w' σ' K',Q wa W→StAt w' (grow F W w') sb b σ' K'→Turn F W w'→B7 M w0 w' wb sb b σ' K'∧Turn F wa w':=BothAt.call h qa
theorem M7.keep(h:M7 N w0 w mb rs rb τ)(q:Q w w'):M7 N w0 w' mb rs rb τ:=BothAt.keep h q
theorem M7.cells(h:M7 N w0 w mb rs rb τ):w.cell? ⟨mb,0,none⟩=some (ptrV rb)∧w.cell? ⟨mb,1,none⟩=some (ptrV rs):=(BothAt.cells h).2
theorem M7.call(h:M7 N w0 w mb rs rb τ)(qa:Q w wa):∃G:Nat→Prop,(∀k,G k→k<w.heap.size)∧¬G mb∧RStAt w G rs rb τ ∧
  ∀W w' τ',Q wa W→RStAt w' (grow G W w') rs rb τ'→Turn G W w'→M7 N w0 w' mb rs rb τ'∧Turn G wa w':=BothAt.mcall h qa
end
end
end Go.Proofs.YthcpkgfieoneeaaGreatDoor
