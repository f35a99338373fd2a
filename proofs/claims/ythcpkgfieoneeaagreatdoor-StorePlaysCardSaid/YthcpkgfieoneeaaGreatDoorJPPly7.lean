/- Joined texts of one proof: what is needed of Ply7, Ply7c, Acts7. -/
import Derived.Test.YthcpkgfieoneeaaGreatDoorJPSto
import Derived.Test.YthcpkgfieoneeaaGreatDoorJPKit
set_option linter.unusedSimpArgs false
set_option linter.unusedVariables false
set_option linter.unnecessarySimpa false
set_option maxRecDepth 100000
set_option maxHeartbeats 16000000
namespace Go.Proofs.YthcpkgfieoneeaaGreatDoor
section
def pickZ(c:Int)(n:Nat):Nat:=(if c<0 then -(c+1) else c).toNat%n
theorem pickZ_lt(c:Int)(n:Nat)(h:0<n):pickZ c n<n:=Nat.mod_lt _ h
structure Act7 where
 op:Int
 at_:Int
 n:Int
 keep:List Bool
 byte:UInt8
def Act7.k(a:Act7):Nat:=pickZ a.op 11
def fullL(c:UInt8):Bytes:=List.replicate 256 c
theorem fullL_len(c:UInt8):(fullL c).length=256:=List.length_replicate
def Act7.at7(a:Act7):Int:=if a.at_.tmod 29=0 then a.at_ else 60+(pickZ a.at_ 72:Nat)
def Act7.data(a:Act7):Bytes:=if a.n.tmod 31=0∧a.n≠0 then [120] else fullL a.byte
theorem Act7.data_len(a:Act7):a.data.length≤256:=by
 unfold Act7.data
 split
 ·decide
 ·rw[fullL_len];exact Nat.le_refl _
def doesS(a:Act7)(σ:StL):StL :=
 if a.k≤1 then(σ.write a.at7 a.data).1 else if a.k≤3 then(σ.alloc a.n).1 else if a.k=4 then(σ.release a.at7 a.n).1 else if a.k=5 then σ.begin.1 else if a.k=6 then σ.commit.1 else if a.k=7 then σ.abort else σ
def doesE(a:Act7)(σ:StL):Int :=
 if a.k≤1 then(σ.write a.at7 a.data).2 else if a.k≤3 then(σ.alloc a.n).2.2 else if a.k=4 then(σ.release a.at7 a.n).2 else if a.k=5 then σ.begin.2 else if a.k=6 then σ.commit.2 else if a.k=7 then 0 else(σ.read a.at7).2
def doesN(a:Act7)(σ:StL):Int:=if 2≤a.k∧a.k≤3 then(σ.alloc a.n).2.1 else 0
def doesT(a:Act7)(σ:StL):Bytes:=if a.k=8 then(σ.read a.at7).1 else []
def StL.fuse(σ:StL)(f:Int):StL:={ σ with j:={ σ.j with d:=σ.j.d.setFuse f } }
theorem setFuse_ok{d:DevL}(h:d.Ok)(f:Int)(hf:f≤9223372036854775807):(d.setFuse f).Ok:=⟨h.pos,h.max,h.l,h.p,by simp only[DevL.setFuse];omega,by simp only[DevL.setFuse];omega⟩
theorem fuse_inv{K:Nat}{σ:StL}{fr:List (List WrL)}{C:Nat→Bytes}(h:StInv K σ fr C)(f:Int)(hf:f≤9223372036854775807):StInv K (σ.fuse f) fr C:=by
 have i:=h.inv
 exact⟨⟨⟨setFuse_ok i.ok f hf,i.live,i.hrec,i.hlog,i.he,i.hnext,i.hnextK,i.hused,i.pend,i.get⟩,i.old,i.hend,i.plen⟩,h.big,h.good,h.map,h.now,h.rise,h.txok,h.short,h.hwas,h.closed⟩
theorem touch_e(σ:StL)(l:List WrL):((σ.touch l).2=0∨(σ.touch l).2=6)∧(σ.touch l).1.j=σ.j:=by
 unfold StL.touch
 split
 ·exact⟨.inr rfl,rfl⟩
 ·exact⟨.inl rfl,rfl⟩
theorem write_e{σ:StL}(h:σ.dead=false)(i:Int)(s:Bytes):(σ.write i s).2≠4∧(σ.write i s).1.j=σ.j:=by
 have hs:σ.state true≠4:=by unfold StL.state;rw[h];simp only[Bool.false_eq_true,if_false];split<;>decide
 unfold StL.write
 split
 ·exact⟨hs,rfl⟩
 ·split
  ·exact⟨by simp,rfl⟩
  ·split
   ·exact⟨by simp,rfl⟩
   ·split
    ·exact⟨by simp,rfl⟩
    ·obtain⟨e,f⟩:=touch_e σ [(i.toNat,s)]
     exact⟨by rcases e with e|e<;>rw[e]<;>decide,f⟩
theorem turn_e(σ:StL)(a c:Nat)(on:Bool):(σ.turn a c on).2≠4∧(σ.turn a c on).1.j=σ.j:=by
 obtain⟨e,f⟩:=touch_e σ (σ.turned (setTo σ.map1 a on c))
 unfold StL.turn
 split
 ·exact⟨by rcases e with e|e<;>rw[e]<;>decide,f⟩
 ·exact⟨by simp,f⟩
theorem alloc_e{σ:StL}(h:σ.dead=false)(c:Int):(σ.alloc c).2.2≠4∧(σ.alloc c).1.j=σ.j:=by
 have hs:σ.state true≠4:=by unfold StL.state;rw[h];simp only[Bool.false_eq_true,if_false];split<;>decide
 unfold StL.alloc
 split
 ·exact⟨hs,rfl⟩
 ·split
  ·exact⟨by simp,rfl⟩
  ·split
   ·exact⟨by simp,rfl⟩
   ·split
    ·exact turn_e _ _ _ _
    ·exact⟨by simp,(turn_e _ _ _ _).2⟩
theorem release_e{σ:StL}(h:σ.dead=false)(a c:Int):(σ.release a c).2≠4∧(σ.release a c).1.j=σ.j:=by
 have hs:σ.state true≠4:=by unfold StL.state;rw[h];simp only[Bool.false_eq_true,if_false];split<;>decide
 unfold StL.release
 split
 ·exact⟨hs,rfl⟩
 ·split
  ·exact⟨by simp,rfl⟩
  ·split
   ·exact⟨by simp,rfl⟩
   ·exact turn_e _ _ _ _
theorem begin_e{σ:StL}(h:σ.dead=false):σ.begin.2≠4∧σ.begin.1.j=σ.j:=by
 have hs:σ.state false≠4:=by unfold StL.state;rw[h];simp only[Bool.false_eq_true,if_false];split<;>decide
 unfold StL.begin
 split
 ·exact⟨hs,rfl⟩
 ·exact⟨by simp,rfl⟩
theorem abort_j(σ:StL):σ.abort.j=σ.j:=by unfold StL.abort;split<;>rfl
theorem read_e{σ:StL}(h:σ.dead=false)(i:Int):(σ.read i).2≠4:=by
 unfold StL.read
 rw[h,if_neg (by decide)]
 split
 ·simp
 ·simp
def Two(K n:Nat)(d:DevL)(C D:Nat→Bytes):Prop:=d.Ok∧d.l.length=n∧GoodC n C∧GoodC n D∧Safe 60 K d (fun E=>E=C∨E=D)
theorem StInv.two{K:Nat}{σ:StL}{fr:List (List WrL)}{C:Nat→Bytes}(h:StInv K σ fr C):Two K σ.n σ.j.d C C :=
 ⟨h.inv.ok,rfl,h.good,h.good,h.inv.safe.mono (Nat.le_refl _) (fun _ h=>.inl h)⟩
theorem Two.mono{K K' n:Nat}{d:DevL}{C D:Nat→Bytes}(h:Two K n d C D)(hk:K≤K'):Two K' n d C D:=⟨h.1,h.2.1,h.2.2.1,h.2.2.2.1,h.2.2.2.2.mono hk (fun _ h=>h)⟩
theorem stinv_mono{K K':Nat}{σ:StL}{fr:List (List WrL)}{C:Nat→Bytes}(h:StInv K σ fr C)(hk:K≤K'):StInv K' σ fr C :=
 ⟨h.inv.mono hk,h.big,h.good,h.map,h.now,h.rise,h.txok,h.short,h.hwas,h.closed⟩
theorem does_run{K:Nat}{σ:StL}{fr:List (List WrL)}{C:Nat→Bytes}(h:StInv K σ fr C)(a:Act7)(hk:a.k<9)(hK:K+4<18446744073709551616):
  (doesE a σ≠4∧(doesS a σ).n=σ.n∧(σ.j.d.Free→(doesS a σ).j.d.Free)∧∃fr',StInv (K+2) (doesS a σ) fr' (if a.k=6∧doesE a σ=0 then updC C σ.tx else C)) ∨
  (doesE a σ=4∧a.k=6∧¬σ.j.d.Free∧Two (K+2) σ.n (doesS a σ).j.d C (updC C σ.tx)):=by
 have hl:σ.dead=false:=h.inv.live
 unfold doesE doesS
 by_cases h1:a.k≤1
 ·left
  rw[if_pos h1,if_pos h1,if_neg (by omega)]
  have e:=write_e hl a.at7 a.data
  exact⟨e.1,by unfold StL.n;rw[e.2],fun hf=>by rw[e.2];exact hf,fr,stinv_mono (write_inv h _ _) (by omega)⟩
 ·rw[if_neg h1,if_neg h1]
  by_cases h2:a.k≤3
  ·left
   rw[if_pos h2,if_pos h2,if_neg (by omega)]
   have e:=alloc_e hl a.n
   exact⟨e.1,by unfold StL.n;rw[e.2],fun hf=>by rw[e.2];exact hf,fr,stinv_mono (alloc_inv h _) (by omega)⟩
  ·rw[if_neg h2,if_neg h2]
   by_cases h3:a.k=4
   ·left
    rw[if_pos h3,if_pos h3,if_neg (by omega)]
    have e:=release_e hl a.at7 a.n
    exact⟨e.1,by unfold StL.n;rw[e.2],fun hf=>by rw[e.2];exact hf,fr,stinv_mono (release_inv h _ _) (by omega)⟩
   ·rw[if_neg h3,if_neg h3]
    by_cases h4:a.k=5
    ·left
     rw[if_pos h4,if_pos h4,if_neg (by omega)]
     have e:=begin_e hl
     exact⟨e.1,by unfold StL.n;rw[e.2],fun hf=>by rw[e.2];exact hf,fr,stinv_mono (begin_inv h) (by omega)⟩
    ·rw[if_neg h4,if_neg h4]
     by_cases h5:a.k=6
     ·rw[if_pos h5,if_pos h5]
      have hfree:σ.j.d.Free→σ.commit.1.j.d.Free:=fun hf=>by
       unfold StL.commit
       split
       ·exact hf
       ·split
        ·exact hf
        ·split<;>exact JL.commit_free hf _
      rcases scommit_run h hK with ⟨e,⟨fr',i⟩,_⟩|⟨e,i,_⟩|⟨e,_,i1,i2,i3,i4,i5⟩
      ·left
       rw[e]
       refine⟨by decide,commit_n σ,hfree,fr',?_⟩
       rw[if_pos ⟨h5,rfl⟩];exact i
      ·left
       rw[e]
       refine⟨by decide,commit_n σ,hfree,fr,?_⟩
       rw[if_neg (by rintro⟨_,h⟩;exact absurd h (by decide)),i]
       exact stinv_mono h (by omega)
      ·right
       exact⟨e,h5,i4,i1,i2,h.good,i3,i5⟩
     ·left
      rw[if_neg h5,if_neg h5]
      by_cases h6:a.k=7
      ·rw[if_pos h6,if_pos h6,if_neg (by omega)]
       exact⟨by decide,abort_n σ,fun hf=>by rw[abort_j];exact hf,fr,stinv_mono (abort_inv h) (by omega)⟩
      ·rw[if_neg h6,if_neg h6,if_neg (by omega)]
       exact⟨read_e hl _,rfl,fun hf=>hf,fr,stinv_mono h (by omega)⟩
theorem two_open{K n:Nat}{d:DevL}{C D:Nat→Bytes}(h:Two K n d C D)(keep:List Bool)(torn cut f:Int)(hf : -1≤f)(hf2:f≤9223372036854775807):
  ∃E,(E=C∨E=D)∧GoodC n E∧∃s k fr,OpenPre 60 K { d.crash keep torn cut with fuse:=f } s k fr E:=by
 obtain⟨E,hE,x⟩:=crash_open h.1 h.2.2.2.2 keep torn cut f hf hf2
 exact⟨E,hE,hE.elim (fun e=>by rw[e];exact h.2.2.1) (fun e=>by rw[e];exact h.2.2.2.1),x⟩
theorem with_length(l:List WrL)(w:WrL):(withL l w).length≤l.length+1:=by
 induction l with
 | nil=>simp[withL]
 | cons x l ih =>
  unfold withL
  split
  ·simp only[List.length_cons];omega
  ·split<;>simp only[List.length_cons]<;>omega
theorem touch_length(l:List WrL):∀(tx:List WrL),(touchL tx l).length≤tx.length+l.length:=by
 unfold touchL
 induction l with
 | nil=>intro tx;exact Nat.le_refl _
 | cons w l ih=>intro tx;rw[List.foldl_cons,List.length_cons];have h1:=ih (withL tx w);have h2:=with_length tx w;omega
theorem turned_length(σ:StL)(b:Bytes):(σ.turned b).length≤partsN σ.n:=by
 unfold StL.turned
 rw[List.length_map]
 exact Nat.le_trans (List.length_filter_le _ _) (by rw[List.length_range];exact Nat.le_refl _)
theorem turn_ok{K:Nat}{σ:StL}{fr:List (List WrL)}{C:Nat→Bytes}(h:StInv K σ fr C)(ho:σ.open_=true)(hs:σ.tx.length+2≤48)(a c:Nat)(on:Bool)(h1:firstD σ.n≤a)(h2:a+c≤σ.n):
  (σ.turn a c on).2=0∧(σ.turn a c on).1.map1=setTo σ.map1 a on c∧StInv K (σ.turn a c on).1 fr C∧(σ.turn a c on).1.tx.length≤σ.tx.length+2∧(σ.turn a c on).1.open_=true∧(σ.turn a c on).1.j=σ.j∧∀w∈(σ.turn a c on).1.tx,w∈σ.tx∨w.1<firstD σ.n:=by
 have hm:=h.max
 have hp:=(firstD_lt σ.n h.big hm).2
 have hl:=touch_length (σ.turned (setTo σ.map1 a on c)) σ.tx
 have ht:=turned_length σ (setTo σ.map1 a on c)
 have ht2:=(turned_map h (setTo σ.map1 a on c) (length_setTo _ _ _ _)).2
 have e:σ.touch (σ.turned (setTo σ.map1 a on c))=({ σ with tx:=touchL σ.tx (σ.turned (setTo σ.map1 a on c)) },0):=by
  unfold StL.touch;rw[if_neg (by omega)]
 have e2:σ.turn a c on=({ σ with tx:=touchL σ.tx (σ.turned (setTo σ.map1 a on c)),map1:=setTo σ.map1 a on c },0):=by
  unfold StL.turn;rw[e,if_neg (by simp)]
 rcases turn_inv h ho a c on h1 h2 with ⟨_,x⟩|⟨_,x,y⟩
 ·rw[e2] at x;exact absurd x (by simp)
 ·refine⟨by rw[e2],x,y,?_,?_,?_,?_⟩
  ·rw[e2];show(touchL _ _).length≤_;omega
  ·rw[e2];exact ho
  ·rw[e2]
  ·rw[e2]
   intro w hw
   rcases touch_mem _ _ _ hw with hw|hw
   ·exact .inr (ht2 w hw).2.1
   ·exact .inl hw
theorem live_state{K:Nat}{σ:StL}{fr:List (List WrL)}{C:Nat→Bytes}(h:StInv K σ fr C)(o:Bool):σ.state o=if σ.open_=o then 0 else 15:=by
 unfold StL.state
 rw[show σ.dead=false from h.inv.live];rfl
theorem fresh_alloc{K:Nat}{σ:StL}{fr:List (List WrL)}{C:Nat→Bytes}(h:StInv K σ fr C)(ho:σ.open_=true)(ht:σ.tx=[])(c:Nat)(hc:1≤c):
  (∃a:Nat,(σ.alloc c).2=((a:Int),0)∧firstD σ.n≤a∧a+c≤σ.n∧(∀j,a≤j→j<a+c→bit σ.map1 j=false)∧(σ.alloc c).1.map1=setTo σ.map1 a true c∧StInv K (σ.alloc c).1 fr C∧(σ.alloc c).1.tx.length≤2∧(σ.alloc c).1.open_=true∧(σ.alloc c).1.j=σ.j∧(σ.alloc c).1.free+c=σ.free∧∀w∈(σ.alloc c).1.tx,w.1<firstD σ.n) ∨
  σ.alloc c=(σ,0,9):=by
 have hz:¬σ.state true≠0:=by rw[live_state h,if_pos ho];simp
 cases hf:fitN σ.map1 c σ.n with
 | none =>
  right
  unfold StL.alloc
  rw[if_neg hz,if_neg (by omega),Int.toNat_natCast,hf]
 | some a =>
  left
  obtain⟨h1,h2,h3⟩:=alloc_fit h.map c a hc h.bits hf
  obtain⟨t0,t1,t2,t3,t4,t5,t6⟩:=turn_ok h ho (by rw[ht];decide) a c true h1 h2
  have e:σ.alloc c=((σ.turn a c true).1,(a:Int),0):=by
   unfold StL.alloc
   rw[if_neg hz,if_neg (by omega),Int.toNat_natCast,hf]
   simp only[]
   rw[if_neg (by rw[t0];simp)]
  rw[e]
  refine⟨a,rfl,h1,h2,h3,t1,t2,by rw[ht] at t3;simpa using t3,t4,t5,?_,fun w hw=>?_⟩
  ·show cnt (σ.turn a c true).1.map1 (σ.turn a c true).1.n+c=cnt σ.map1 σ.n
   have hn:(σ.turn a c true).1.n=σ.n:=by unfold StL.n;rw[t5]
   rw[t1,hn]
   have hb:=fun j=>bit_setTo σ.map1 a c j true (by have:=h.bits;omega)
   have:=cnt_set σ.map1 (setTo σ.map1 a true c) a c hb h3 σ.n
   omega
  ·rcases t6 w hw with hw|hw
   ·rw[ht] at hw;simp at hw
   ·exact hw
theorem fresh_release{K:Nat}{σ:StL}{fr:List (List WrL)}{C:Nat→Bytes}(h:StInv K σ fr C)(ho:σ.open_=true)(hs:σ.tx.length≤2)(b:Bytes)(a c:Nat)(hc:1≤c)(h1:firstD σ.n≤a)(h2:a+c≤σ.n)(hb:σ.map1=setTo b a true c)(hl:b.length=σ.map1.length)(hf:∀j,a≤j→j<a+c→bit b j=false):
  (σ.release a c).2=0∧(σ.release a c).1.map1=b∧StInv K (σ.release a c).1 fr C∧(σ.release a c).1.j=σ.j:=by
 have hz:¬σ.state true≠0:=by rw[live_state h,if_pos ho];simp
 have hbit:=fun j=>bit_setTo b a c j true (by have:=h.bits;omega)
 obtain⟨t0,t1,t2,t3,t4,t5,t6⟩:=turn_ok h ho (by omega) a c false h1 h2
 have hd:σ.isData a=true:=by unfold StL.isData;simp;omega
 have e:σ.release a c=σ.turn a c false:=by
  unfold StL.release
  rw[if_neg hz,if_neg,if_neg,Int.toNat_natCast,Int.toNat_natCast]
  ·rintro⟨i,hi,hx⟩
   rw[Int.toNat_natCast] at hi hx
   rw[hb,hbit,if_pos (by omega)] at hx
   exact absurd hx (by decide)
  ·rintro(x|x|x)
   ·omega
   ·rw[hd] at x;exact absurd x (by decide)
   ·omega
 rw[e]
 refine⟨t0,?_,t2,t5⟩
 rw[t1,hb]
 exact setTo_back b a c (by have:=h.bits;omega) hf
theorem fresh_write{K:Nat}{σ:StL}{fr:List (List WrL)}{C:Nat→Bytes}(h:StInv K σ fr C)(ho:σ.open_=true)(hs:σ.tx.length≤2)(i:Nat)(s:Bytes)(hl:s.length=256)(h1:firstD σ.n≤i)(h2:i<σ.n)(hb:bit σ.map1 i=true):
  σ.write i s=({ σ with tx:=touchL σ.tx [(i,s)] },0)∧StInv K { σ with tx:=touchL σ.tx [(i,s)] } fr C∧({ σ with tx:=touchL σ.tx [(i,s)] }:StL).get i=s∧∀k,k≠i→({ σ with tx:=touchL σ.tx [(i,s)] }:StL).get k=σ.get k:=by
 have hz:¬σ.state true≠0:=by rw[live_state h,if_pos ho];simp
 have hd:¬σ.isData i=false:=by unfold StL.isData;simp;omega
 have ht:=touch_length [(i,s)] σ.tx
 rw[List.length_singleton] at ht
 have e:σ.write i s=({ σ with tx:=touchL σ.tx [(i,s)] },0):=by
  unfold StL.write
  rw[if_neg hz,if_neg hd,Int.toNat_natCast,if_neg (by rw[hb];decide),if_neg (by simpa using hl)]
  unfold StL.touch
  rw[if_neg (by omega)]
 have hi:=write_inv h i s
 rw[e] at hi
 refine⟨e,hi,?_,fun k hk=>?_⟩
 ·unfold StL.get
  show lastP (touchL σ.tx [(i,s)]) i _=s
  rw[touch_lastP _ _ h.rise,lastP,lastP,if_pos rfl]
 ·unfold StL.get
  show lastP (touchL σ.tx [(i,s)]) k _=_
  rw[touch_lastP _ _ h.rise,lastP,lastP,if_neg (fun e=>hk e.symm)]
theorem get_home{K:Nat}{σ:StL}{fr:List (List WrL)}{C:Nat→Bytes}(h:StInv K σ fr C)(i:Nat)(h1:firstD σ.n≤i)(h2:i<σ.n)(ht:∀w∈σ.tx,w.1<firstD σ.n):σ.get i=C i:=by
 rw[h.get i (by unfold firstD at h1;omega) h2]
 unfold updC
 exact lastP_none _ _ _ (fun w hw e=>by have:=ht w hw;omega)
theorem read_data{K:Nat}{σ:StL}{fr:List (List WrL)}{C:Nat→Bytes}(h:StInv K σ fr C)(i:Nat)(h1:firstD σ.n≤i)(h2:i<σ.n):σ.read i=(σ.get i,0):=by
 unfold StL.read
 have hd:σ.isData i=true:=by unfold StL.isData;simp;omega
 rw[show σ.dead=false from h.inv.live,if_neg (by decide),if_pos hd,Int.toNat_natCast]
theorem abort_get{K:Nat}{σ:StL}{fr:List (List WrL)}{C:Nat→Bytes}(h:StInv K σ fr C)(i:Nat)(h1:firstD σ.n≤i)(h2:i<σ.n):σ.abort.read i=(C i,0):=by
 have hn:=abort_n σ
 rw[read_data (abort_inv h) i (by rw[hn];exact h1) (by rw[hn];exact h2)]
 have ht:=(abort_inv h).closed (abort_open σ)
 rw[get_home (abort_inv h) i (by rw[hn];exact h1) (by rw[hn];exact h2) (by rw[ht];simp)]
def usedK(n:Nat)(b:Bytes):List Nat:=(List.range n).filter fun k=>decide (firstD n≤k)&&bit b k
def chunk(f:Nat→Bytes)(k:Nat):Bytes:=UInt8.ofNat (k%256)::UInt8.ofNat (k / 256%256)::f k
theorem tell_chunks(n:Nat)(b:Bytes)(f:Nat→Bytes):tellL n b f=(usedK n b).flatMap (chunk f):=rfl
theorem chunks_len(f:Nat→Bytes)(l:List Nat)(h:∀k∈l,(f k).length=256):(l.flatMap (chunk f)).length=258*l.length:=by
 induction l with
 | nil=>rfl
 | cons k l ih =>
  rw[List.flatMap_cons,List.length_append,ih (fun x hx=>h x (List.mem_cons_of_mem _ hx)),chunk,List.length_cons,List.length_cons,h k (List.mem_cons_self ..),List.length_cons];omega
end
section
open Go.RowKit
def Bools(w:World)(v:Value)(l:List Bool):Prop:=Sl w v l.length 1 (l.map .bool)
abbrev act7Vs(vs:List Value)(l:List Act7):List Value:=(vs.zip l).flatMap fun x=>[.int .i64 x.2.op,.int .i64 x.2.at_,.int .i64 x.2.n,x.1,.int .u8 (x.2.byte.toNat:Nat)]
def actV(kv:Value)(a:Act7):Value:=.agg #[.int .i64 a.op,.int .i64 a.at_,.int .i64 a.n,kv,.int .u8 (a.byte.toNat:Nat)]
def Acts7(w:World)(v:Value)(l:List Act7):Prop:=∃vs:List Value,vs.length=l.length∧Sl w v l.length 5 (act7Vs vs l)∧∀(i:Nat) (a:Value) (b:Act7),vs[i]?=some a→l[i]?=some b→Bools w a b.keep
def ActA(w:World)(v:Value)(a:Act7):Prop:=∃kv,v=actV kv a∧Bools w kv a.keep
structure Act7.Wf (a:Act7):Prop where
 op : -9223372036854775808≤a.op∧a.op≤9223372036854775807
 at_ : -9223372036854775808≤a.at_∧a.at_≤9223372036854775807
 n : -9223372036854775808≤a.n∧a.n≤9223372036854775807
 keep:a.keep.length≤9223372036854775807
def Acts7Wf(l:List Act7):Prop:=l.length≤9223372036854775807∧∀a∈l,a.Wf
theorem Bools.stays{w w':World}{v:Value}{l:List Bool}(h:Bools w v l)(q:Q w w'):Bools w' v l:=Sl.stays h q
theorem Acts7.stays{w w':World}{v:Value}{l:List Act7}(h:Acts7 w v l)(q:Q w w'):Acts7 w' v l:=by
 obtain⟨vs,h1,h2,h3⟩:=h
 exact⟨vs,h1,h2.stays q,fun i a b ha hb=>(h3 i a b ha hb).stays q⟩
theorem act7Vs_at(vs:List Value)(l:List Act7)(hl:vs.length=l.length)(k:Nat)(h:k<l.length):(act7Vs vs l)[k*5]?=some (.int .i64 l[k].op)∧(act7Vs vs l)[k*5+1]?=some (.int .i64 l[k].at_)∧(act7Vs vs l)[k*5+2]?=some (.int .i64 l[k].n)∧(act7Vs vs l)[k*5+3]?=some (vs[k]'(by omega))∧(act7Vs vs l)[k*5+4]?=some (.int .u8 (l[k].byte.toNat:Nat)):=by
 induction l generalizing vs k with
 | nil=>simp at h
 | cons d l ih =>
  cases vs with
  | nil=>simp at hl
  | cons v vs =>
   have e:act7Vs (v::vs) (d::l)=.int .i64 d.op::.int .i64 d.at_::.int .i64 d.n::v::.int .u8 (d.byte.toNat:Nat)::act7Vs vs l:=by simp[act7Vs]
   cases k with
   | zero=>rw[e];exact⟨rfl,rfl,rfl,rfl,rfl⟩
   | succ k =>
    have:=ih vs (by simpa using hl) k (by simpa using h)
    rw[e,show(k+1)*5=k*5+1+1+1+1+1 by omega]
    exact this
theorem Acts7.value{w:World}{v:Value}{l:List Act7}(h:Acts7 w v l):∃a cap,v=.slice a l.length cap∧(0<l.length→∃b off,a=some ⟨b,off,none⟩ ∧
  ∀k (hk:k<l.length),∃kv,w.cell? ⟨b,off+k*5,none⟩=some (.int .i64 l[k].op)∧w.cell? ⟨b,off+k*5+1,none⟩=some (.int .i64 l[k].at_)∧w.cell? ⟨b,off+k*5+2,none⟩=some (.int .i64 l[k].n)∧w.cell? ⟨b,off+k*5+3,none⟩=some kv∧w.cell? ⟨b,off+k*5+4,none⟩=some (.int .u8 (l[k].byte.toNat:Nat))∧Bools w kv l[k].keep):=by
 obtain⟨vs,hl,⟨_,a,cap,h2,h3⟩,h4⟩:=h
 refine⟨a,cap,h2,fun hn=>?_⟩
 obtain⟨b,off,h5,h6⟩:=h3 hn
 refine⟨b,off,h5,fun k hk=>?_⟩
 obtain⟨e0,e1,e2,e3,e4⟩:=act7Vs_at vs l hl k hk
 exact⟨_,h6 _ _ e0,h6 _ _ e1,h6 _ _ e2,h6 _ _ e3,h6 _ _ e4,h4 k _ _ (List.getElem?_eq_getElem (by omega)) (List.getElem?_eq_getElem hk)⟩
theorem Bools.len{w:World}{v:Value}{l:List Bool}(h:Bools w v l):∃a cap,v=.slice a l.length cap:=by
 obtain⟨_,a,cap,e,_⟩:=h
 exact⟨a,cap,e⟩
def small7B(l:List Act7):Bool:=decide (l.length≤80)&&l.all fun a=>decide (a.keep.length≤200)
theorem Small7_any(v:Value)(l:List Act7)(w:World)(hv:Acts7 w v l)(hl:Acts7Wf l):
  Calls Tryz.prog 5 #[v] w fun e w'=>e=.returned (.bool (small7B l))∧w=w':=by
 obtain⟨a,cap,rfl,hcell⟩:=hv.value
 obtain⟨hn,hl⟩:=hl
 have HC:=Lib.hid hcell;have HL:=Lib.hid hl
 clear hv hcell hl
 by_cases h80:l.length≤80
 ·have hsb:small7B l=l.all fun a=>decide (a.keep.length≤200):=by unfold small7B;rw[decide_eq_true h80];rfl
  have HSB:=Lib.hid hsb;clear hsb
  have h80i:¬((80:Int)<(l.length:Int)):=by omega
  go_enter Tryz.func5,Tryz.ntmps5
  go_wp2_with fail
  go_loop [3] (fun x=>∃k:Nat,x=.int .i64 (k:Nat)∧k≤l.length∧Hid ((l.all fun a=>decide (a.keep.length≤200))=(l.drop k).all fun a=>decide (a.keep.length≤200))) (fun x=>l.length-(intOf x).toNat)
  case atStart=>exact⟨0,rfl,by omega,rfl⟩
  case round =>
   obtain⟨k,rfl,hk,HK⟩:=hrel
   by_cases hlt:k<l.length
   ·obtain⟨b,off,rfl,hc⟩:=HC.out (by omega)
    obtain⟨kv,_,_,_,c3,_,hb⟩:=hc k hlt
    have hwf:=(HL.out _ (List.getElem_mem hlt)).keep
    have hall:(l.all fun a=>decide (a.keep.length≤200))=(decide (l[k].keep.length≤200)&&(l.drop (k+1)).all fun a=>decide (a.keep.length≤200)):=by rw[HK.out,List.drop_eq_getElem_cons hlt,List.all_cons]
    have hi0:(0:Int)≤(k:Int):=by omega
    have hi1:(k:Int)<(l.length:Int):=by omega
    generalize l[k]=act at *
    obtain⟨ka,kc,rfl⟩:=hb.len
    clear hc hb
    by_cases h200:act.keep.length≤200
    ·have hso:(l.all fun a=>decide (a.keep.length≤200))=(l.drop (k+1)).all fun a=>decide (a.keep.length≤200):=by rw[hall];simp[h200]
     have HSO:=Lib.hid hso
     clear hso hall
     have h2i:¬((200:Int)<(act.keep.length:Int)):=by omega
     go_wp2_with fail
     go_round
     case rel=>exact⟨k+1,by go_num,by omega,HSO⟩
     case measure=>simp[intOf];omega
    ·have hso:(l.all fun a=>decide (a.keep.length≤200))=false:=by rw[hall];simp;omega
     have HSO:=Lib.hid hso
     clear hso hall
     have h2i:(200:Int)<(act.keep.length:Int):=by omega
     go_wp2_with fail
     go_ret
     exact⟨by rw[HSB.out,HSO.out];rfl,rfl⟩
   ·have hje:k=l.length:=by omega
    subst hje
    have hso:(l.all fun a=>decide (a.keep.length≤200))=true:=by rw[HK.out,List.drop_length];rfl
    have HSO:=Lib.hid hso;clear hso
    go_wp2_with fail
    go_ret
    exact⟨by rw[HSB.out,HSO.out];rfl,rfl⟩
 ·have hsb:small7B l=false:=by unfold small7B;rw[decide_eq_false h80];rfl
  have HSB:=Lib.hid hsb;clear hsb
  have h80i:(80:Int)<(l.length:Int):=by omega
  go_enter Tryz.func5,Tryz.ntmps5
  go_wp2_with fail
  go_ret
  exact⟨by rw[HSB.out];rfl,rfl⟩
theorem small7_wf{l:List Act7}(h:small7B l=true):l.length≤80∧∀a∈l,a.keep.length≤200:=by
 unfold small7B at h
 rw[Bool.and_eq_true,decide_eq_true_eq,List.all_eq_true] at h
 exact⟨h.1,fun a ha=>by simpa using h.2 a ha⟩
end
end Go.Proofs.YthcpkgfieoneeaaGreatDoor
