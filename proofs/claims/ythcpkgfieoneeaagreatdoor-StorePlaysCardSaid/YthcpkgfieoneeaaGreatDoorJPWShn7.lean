/- Joined texts of one proof: what is needed of WShn7, Law7, Old7, Keep7, B11, Ply7e, Same7, B12, WPlays7. -/
import Derived.Test.YthcpkgfieoneeaaGreatDoorJPBDoes7
import Derived.Test.YthcpkgfieoneeaaGreatDoorJPHlp7
import Derived.Test.YthcpkgfieoneeaaGreatDoorJPWld7
import Derived.Test.YthcpkgfieoneeaaGreatDoorJPWRef4h
import Derived.Test.YthcpkgfieoneeaaGreatDoorJPWRef7b
import Derived.Test.YthcpkgfieoneeaaGreatDoorJPWStoK
set_option linter.unusedSimpArgs false
set_option linter.unusedVariables false
set_option linter.unnecessarySimpa false
set_option maxRecDepth 100000
set_option maxHeartbeats 16000000
namespace Go.Proofs.YthcpkgfieoneeaaGreatDoor
section
open Go.RowKit
theorem Shown7_any(w:World):Calls Tryz.prog 4 #[] w fun e w'=>e=.returned (.bool true)∧Q w w':=by
 have hfo:=Formatted_any w 128 64 (by decide) (by decide) (by decide)
 obtain⟨_,_,i0,n0,f0,m0⟩:=start_all 128 (by decide) (by decide)
 have hfree0:(startS 128).free=64:=by unfold StL.free;rw[m0,n0];decide +kernel
 have o0:(startS 128).open_=false:=rfl
 have hus:∀W sb b K,SAt w W sb b (startS 128) K→SAt w W sb b (startS 128) K:=fun _ _ _ _ h=>h
 have hst:∀w' sb b,StAt w' (fun k=>w.heap.size≤k∧k<w'.heap.size) sb b (startS 128) 0→Q w w'→SAt w w' sb b (startS 128) 0:=fun w' sb b h q=>⟨_,fun k hk=>hk.1,h,q⟩
 generalize startS 128=s0 at *
 obtain⟨s1,s2,s3,s4,fr4,C4,a1,a2,a3,a4,a5,a6,i1,i2,i3,i4,n4,m4,o4,f4,c4⟩:=shown_first i0 n0 m0 o0 f0 (by decide)
 obtain⟨s5,s6,s7,b1,b2,b3,b4,i5,i6,i7,b5,b6,b7⟩:=shown_second i4 n4 m4 o4 c4
 have u0:=i0.num (by decide);have u1:=i1.num (by decide);have u2:=i2.num (by decide);have u3:=i3.num (by decide);have u4:=i4.num (by decide);have u5:=i5.num (by decide);have u6:=i6.num (by decide);have u7:=i7.num (by decide)
 have hfu:=fun (W:World)=>Full_any 97 W
 have k1:=fun (W:World) sb b K (h:SAt w W sb b s0 K) (hK:K≤1000)=>h.alloc 2 u0 (by omega)
 have k2:=fun (W:World) sb b K (h:SAt w W sb b s0 K)=>h.begin_
 have k3:=fun (W:World) sb b K (h:SAt w W sb b s1 K) (hK:K≤1000)=>h.alloc 2 u1 (by omega)
 have k4:=fun (W:World) sb b K (h:SAt w W sb b s2 K) (hK:K≤1000)=>h.write 64 (fullL 97) u2 (by omega) (by rw[fullL_len];decide)
 have k5:=fun (W:World) sb b K (h:SAt w W sb b s3 K) (hK:K≤1000)=>h.write 66 (fullL 97) u3 (by omega) (by rw[fullL_len];decide)
 have k6:=fun (W:World) sb b K (h:SAt w W sb b s3 K)=>h.commit u3 (commit_pre i3 (by decide))
 have k7:=fun (W:World) sb b K (h:SAt w W sb b s4 K)=>h.used u4
 have k8:=fun (W:World) sb b K (h:SAt w W sb b s4 K)=>h.begin_
 have k9:=fun (W:World) sb b K (h:SAt w W sb b s5 K) (hK:K≤1000)=>h.release 64 1 u5 (by omega)
 have k10:=fun (W:World) sb b K (h:SAt w W sb b s6 K) (hK:K≤1000)=>h.alloc 64 u6 (by omega)
 have k11:=fun (W:World) sb b K (h:SAt w W sb b s6 K)=>h.abort
 have k12:=fun (W:World) sb b K (h:SAt w W sb b s7 K) (hK:K≤1000)=>h.read 64 u7 (by omega)
 have k13:=fun (W:World) sb b K (h:SAt w W sb b s7 K)=>h.free u7
 have k14:=fun (W:World) sb b K (h:SAt w W sb b s0 K)=>h.first u0
 have k15:=fun (W:World) sb b K (h:SAt w W sb b s0 K)=>h.free u0
 simp only[a1] at k1;simp only[a2] at k2;simp only[a3] at k3;simp only[a4] at k4;simp only[a5] at k5;simp only[a6] at k6;simp only[b7] at k7;simp only[b1] at k8;simp only[b2] at k9;simp only[b3] at k10;simp only[b4] at k11;simp only[b6] at k12;simp only[b5] at k13;simp only[n0] at k14;simp only[hfree0] at k15
 have hfl:=fullL_len 97
 have H1:=Lib.hid k1;have H2:=Lib.hid k2;have H3:=Lib.hid k3;have H4:=Lib.hid k4;have H5:=Lib.hid k5;have H6:=Lib.hid k6;have H7:=Lib.hid k7;have H8:=Lib.hid k8;have H9:=Lib.hid k9;have H10:=Lib.hid k10;have H11:=Lib.hid k11;have H12:=Lib.hid k12;have H13:=Lib.hid k13;have H14:=Lib.hid k14;have H15:=Lib.hid k15
 have HFO:=Lib.hid hfo;have HFU:=Lib.hid hfu;have HST:=Lib.hid hst
 clear k1 k2 k3 k4 k5 k6 k7 k8 k9 k10 k11 k12 k13 k14 k15 hfo hfu hst hus a1 a2 a3 a4 a5 a6 b1 b2 b3 b4 b5 b6 b7 i0 i1 i2 i3 i4 i5 i6 i7 u0 u1 u2 u3 u4 u5 u6 u7 n0 m0 o0 f0 n4 m4 o4 f4 c4 hfree0
 have e97:((97:UInt8).toNat:Int)=97:=rfl
 generalize fullL 97=fu at *
 go_enter Tryz.func4,Tryz.ntmps4
 go_wp2_with fail
 refine HFO.out.mono ?_
 rintro e w1 ⟨sb,b,rfl,h1,q1⟩
 have S0:=Lib.hid (HST.out _ _ _ h1 q1)
 clear h1 q1
 go_wp2_with fail
 refine(H14.out _ _ _ _ S0.out).mono ?_
 rintro e w2 ⟨rfl,rfl⟩
 go_wp2_with fail
 refine(H15.out _ _ _ _ S0.out).mono ?_
 rintro e w2 ⟨rfl,q2⟩
 have S1:=Lib.hid (S0.out.keep q2)
 clear q2 S0
 go_wp2_with fail
 refine(H1.out _ _ _ _ S1.out (by decide)).mono ?_
 rintro e w3 ⟨rfl,h3⟩
 have S2:=Lib.hid h3
 clear h3 S1
 go_wp2_with fail
 refine(H2.out _ _ _ _ S2.out).mono ?_
 rintro e w4 ⟨rfl,h4⟩
 have S3:=Lib.hid h4
 clear h4 S2
 go_wp2_with fail
 refine(H3.out _ _ _ _ S3.out (by decide)).mono ?_
 rintro e w5 ⟨rfl,h5⟩
 have S4:=Lib.hid h5
 clear h5 S3
 go_wp2_with fail
 refine(HFU.out _).mono ?_
 rintro e w6 ⟨rfl,q6⟩
 have S5:=Lib.hid (S4.out.keep q6)
 clear q6 S4
 go_wp2_with fail
 refine(H4.out _ _ _ _ S5.out (by decide)).mono ?_
 rintro e w7 ⟨rfl,h7⟩
 have S6:=Lib.hid h7
 clear h7 S5
 go_wp2_with fail
 refine(HFU.out _).mono ?_
 rintro e w8 ⟨rfl,q8⟩
 have S7:=Lib.hid (S6.out.keep q8)
 clear q8 S6
 go_wp2_with fail
 refine(H5.out _ _ _ _ S7.out (by decide)).mono ?_
 rintro e w9 ⟨rfl,h9⟩
 have S8:=Lib.hid h9
 clear h9 S7
 go_wp2_with fail
 refine(H6.out _ _ _ _ S8.out).mono ?_
 rintro e w10 ⟨rfl,h10⟩
 have S9:=Lib.hid h10
 clear h10 S8
 go_wp2_with fail
 refine(H7.out _ _ _ _ S9.out).mono ?_
 rintro e w11 ⟨v,rfl,ho,q11⟩
 have S10:=Lib.hid (S9.out.keep q11)
 obtain⟨va,vc,rfl,hva⟩:=owns_value ho
 obtain⟨g,rfl⟩:=hva (by decide)
 have y0:=owns_cells (Sl.of_owns ho) (by decide) 0 (.int .i64 64) rfl
 have y1:=owns_cells (Sl.of_owns ho) (by decide) 1 (.int .i64 2) rfl
 clear ho q11 S9 hva
 simp only[List.length_singleton]
 go_wp2_with fail
 refine(H8.out _ _ _ _ S10.out).mono ?_
 rintro e w12 ⟨rfl,h12⟩
 have S11:=Lib.hid h12
 clear h12 S10 y0 y1
 go_wp2_with fail
 refine(H9.out _ _ _ _ S11.out (by decide)).mono ?_
 rintro e w13 ⟨rfl,h13⟩
 have S12:=Lib.hid h13
 clear h13 S11
 go_wp2_with fail
 refine(H10.out _ _ _ _ S12.out (by decide)).mono ?_
 rintro e w14 ⟨rfl,h14⟩
 have S13:=Lib.hid h14
 clear h14 S12
 go_wp2_with fail
 refine(H11.out _ _ _ _ S13.out).mono ?_
 rintro e w15 ⟨rfl,h15⟩
 have S14:=Lib.hid h15
 clear h15 S13
 go_wp2_with fail
 refine(H12.out _ _ _ _ S14.out (by decide)).mono ?_
 rintro e w16 ⟨rfl,h16⟩
 have S15:=Lib.hid h16
 clear h16 S14
 go_wp2_with fail
 refine(H13.out _ _ _ _ S15.out).mono ?_
 rintro e w17 ⟨rfl,q17⟩
 have S16:=Lib.hid (S15.out.keep q17)
 clear q17 S15
 go_wp2_with fail
 refine(HFU.out _).mono ?_
 rintro e w18 ⟨rfl,q18⟩
 have S17:=Lib.hid (S16.out.keep q18)
 clear q18 S16
 go_wp2_with fail
 go_ret
 exact⟨rfl,S17.out.q⟩
end
section
open Go.RowKit
structure Good7 (k:Nat) (σ:StL):Prop where
 ex:∃fr C,StInv (5+2*k) σ fr C
 free:σ.j.d.Free
 n:σ.n=132
theorem Good7.more{k:Nat}{σ:StL}(h:Good7 k σ):Good7 (k+1) σ:=by
 obtain⟨⟨fr,C,hi⟩,hf,hn⟩:=h
 exact⟨⟨fr,C,stinv_mono hi (by omega)⟩,hf,hn⟩
theorem Good7.num{k:Nat}{σ:StL}(h:Good7 k σ)(hk:k≤1000000):StNum σ:=by
 obtain⟨⟨fr,C,hi⟩,hf,hn⟩:=h
 exact hi.num (by omega)
theorem Good7.pre{k:Nat}{σ:StL}(h:Good7 k σ)(hk:k≤1000000):σ.state true=0→σ.tx≠[]→ComPre σ:=by
 obtain⟨⟨fr,C,hi⟩,hf,hn⟩:=h
 exact commit_pre hi (by omega)
theorem Good7.does{k:Nat}{σ:StL}(h:Good7 k σ)(a:Act7)(hk:a.k<9)(hk2:k≤1000000):Good7 (k+1) (doesS a σ):=by
 obtain⟨⟨fr,C,hi⟩,hf,hn⟩:=h
 rcases does_run hi a hk (by omega) with ⟨_,b,c,fr',d⟩|⟨_,_,x,_⟩
 ·exact⟨⟨fr',_,by rw[show 5+2*(k+1)=5+2*k+2 by omega];exact d⟩,c hf,by rw[b];exact hn⟩
 ·exact absurd hf x
theorem Good7.abort{k:Nat}{σ:StL}(h:Good7 k σ):Good7 k σ.abort:=by
 obtain⟨⟨fr,C,hi⟩,hf,hn⟩:=h
 exact⟨⟨fr,C,abort_inv hi⟩,by rw[abort_j];exact hf,by rw[abort_n];exact hn⟩
def Keeps(w0:World)(wb:Nat)(w w':World):Prop:=∀a v,(a.block=wb∨a.block<w0.heap.size)→w.cell? a=some v→w'.cell? a=some v
section
variable {w0 w:World} {wb sb b:Nat} {σ:StL} {K:Nat}
theorem Keeps.of_q{w':World}(q:Q w w'):Keeps w0 wb w w':=fun a v _ hc=>cell_stays q hc
theorem WAt.freeK(h:WAt w0 w wb sb b σ K)(hn:StNum σ):∀W,Q w W →
  Calls Tryz.prog 11 #[ptrV sb] W fun e w'=>e=.returned (.int .i64 (σ.free:Nat))∧Q W w':=by
 obtain⟨F,_,_,⟨FJ,FC,p,cb,tb,most,clock,ms,mb,m,ti,hg,_⟩,_⟩:=h
 exact fun W q=>SFree_any (hg.keep q) hn
theorem WAt.usedK(h:WAt w0 w wb sb b σ K)(hn:StNum σ):∀W,Q w W →
  Calls Tryz.prog 16 #[ptrV sb] W fun e w'=>∃v,e=.returned v∧w'.ownsRow W.heap.size 64 2 v (usedR σ.map1 (firstD σ.n) σ.n).length (ext (usedR σ.map1 (firstD σ.n) σ.n))∧Q W w':=by
 obtain⟨F,_,_,hs,_⟩:=h
 exact fun W q=>SUsed_any W F sb b σ K (hs.keep q) hn
end
def SixAt(wb sb ab:Nat)(v0 v1 v2 v3 v4:Value)(w:World):Prop:=w.cell? ⟨wb,1,none⟩=some (ptrV sb)∧w.cell? ⟨ab,0,none⟩=some v0∧w.cell? ⟨ab,1,none⟩=some v1∧w.cell? ⟨ab,2,none⟩=some v2∧w.cell? ⟨ab,3,none⟩=some v3∧w.cell? ⟨ab,4,none⟩=some v4
theorem SixAt.keeps{w0 w w':World}{wb sb ab:Nat}{v0 v1 v2 v3 v4:Value}(h:SixAt wb sb ab v0 v1 v2 v3 v4 w)(k:Keeps w0 wb w w')(hl:ab<w0.heap.size):SixAt wb sb ab v0 v1 v2 v3 v4 w':=by
 obtain⟨c,z0,z1,z2,z3,z4⟩:=h
 exact⟨k _ _ (.inl rfl) c,k _ _ (.inr hl) z0,k _ _ (.inr hl) z1,k _ _ (.inr hl) z2,k _ _ (.inr hl) z3,k _ _ (.inr hl) z4⟩
theorem SixAt.q{w w':World}{wb sb ab:Nat}{v0 v1 v2 v3 v4:Value}(h:SixAt wb sb ab v0 v1 v2 v3 v4 w)(k:Q w w'):SixAt wb sb ab v0 v1 v2 v3 v4 w':=by
 obtain⟨c,z0,z1,z2,z3,z4⟩:=h
 exact seven k c z0 z1 z2 z3 z4
end
section
open Go.RowKit
theorem Keeps.wb{w0 w w':World}{wb i:Nat}{v:Value}(h:Keeps w0 wb w w')(hc:w.cell? ⟨wb,i,none⟩=some v):w'.cell? ⟨wb,i,none⟩=some v:=h _ _ (.inl rfl) hc
def ReAt(w0 w:World)(wb sb p b sb2:Nat)(cs js:Array Value)(σ:StL)(K:Nat):Prop :=
 ∃G:Nat→Prop,(∀k,G k→w0.heap.size≤k)∧¬G wb∧¬G sb∧¬G p∧StAt w G sb2 b σ K∧Blk w wb 40 #[ptrV b,ptrV sb]∧Blk w sb 86 cs∧Blk w p 110 js∧cs[0]?=some (ptrV p)∧js[0]?=some (ptrV b)∧Q w0 w
section
variable {w0 w:World} {wb sb p b sb2:Nat} {cs js:Array Value} {σ:StL} {K:Nat}
theorem ReAt.turn(h:ReAt w0 w wb sb p b sb2 cs js σ K):∃G:Nat→Prop,StAt w G sb2 b σ K∧∀w' σ' K',StAt w' (grow G w w') sb2 b σ' K'∧Turn G w w'→ReAt w0 w' wb sb p b sb2 cs js σ' K':=by
 obtain⟨G,g1,n1,n2,n3,hs,b1,b2,b3,e1,e2,q⟩:=h
 refine⟨G,hs,fun w' σ' K' ⟨h1,t⟩=>⟨grow G w w',grow_low g1 q.size,fun hc=>hc.elim n1 (fun hc=>by have:=b1.lt;omega),fun hc=>hc.elim n2 (fun hc=>by have:=b2.lt;omega),fun hc=>hc.elim n3 (fun hc=>by have:=b3.lt;omega),h1,t.blk b1 n1,t.blk b2 n2,t.blk b3 n3,e1,e2,t.low g1 q⟩⟩
theorem ReAt.keep{w':World}(h:ReAt w0 w wb sb p b sb2 cs js σ K)(q':Q w w'):ReAt w0 w' wb sb p b sb2 cs js σ K:=by
 obtain⟨G,g1,n1,n2,n3,hs,b1,b2,b3,e1,e2,q⟩:=h
 exact⟨G,g1,n1,n2,n3,hs.keep q',b1.stays q',b2.stays q',b3.stays q',e1,e2,q.trans q'⟩
theorem ReAt.q(h:ReAt w0 w wb sb p b sb2 cs js σ K):Q w0 w:=by
 obtain⟨G,g1,n1,n2,n3,hs,b1,b2,b3,e1,e2,q⟩:=h
 exact q
theorem ReAt.cell(h:ReAt w0 w wb sb p b sb2 cs js σ K):w.cell? ⟨wb,1,none⟩=some (ptrV sb):=by
 obtain⟨G,g1,n1,n2,n3,hs,b1,b2,b3,e1,e2,q⟩:=h
 exact b1.cell 1 _ rfl
theorem ReAt.free(h:ReAt w0 w wb sb p b sb2 cs js σ K)(hn:StNum σ):
  Calls Tryz.prog 11 #[ptrV sb2] w fun e w'=>e=.returned (.int .i64 (σ.free:Nat))∧Q w w':=by
 obtain⟨G,_,_,_,_,⟨FJ,FC,p,cb,tb,most,clock,ms,mb,m,ti,hg,_⟩,_⟩:=h
 exact SFree_any hg hn
theorem ReAt.first(h:ReAt w0 w wb sb p b sb2 cs js σ K)(hn:StNum σ):
  Calls Tryz.prog 19 #[ptrV sb2] w fun e w'=>e=.returned (.int .i64 (firstD σ.n:Nat))∧w=w':=by
 obtain⟨G,_,_,_,_,⟨FJ,FC,p,cb,tb,most,clock,ms,mb,m,ti,hg,_⟩,_⟩:=h
 exact SFirst_any hg hn.max
end
theorem WAt.reopen{w0 w:World}{wb sb b:Nat}{σ:StL}{K:Nat}(h:WAt w0 w wb sb b σ K)(hok:σ.j.d.Ok)(hpl:σ.j.d.p.length≤800000)(hop:OpenOk σ.j.d)(most:Nat)(hm:64≤most∧most≤1024):∀W,Q w W →
  Calls Tryz.prog 35 #[ptrV b,.int .i64 (most:Nat)] W fun e w'=>∃sb2 p cs js,e=.returned (.tuple #[ptrV sb2,.int .i64 0])∧ReAt w0 w' wb sb p b sb2 cs js (openedS σ.j.d) 0∧Keeps w0 wb w w':=by
 intro W qW
 obtain⟨F,hF,hwb,⟨FJ,FC,p,cb,tb,mst,clock,ms,mb,m,ti,hg,hsub,hlt,hcl⟩,hb,q0⟩:=h
 have hlW:∀k,FJ k→k<w.heap.size:=fun k hk=>hlt k (hsub k (.inl hk))
 have hdv:=(hg.jr.dev.minus hg.jr.box).keep qW
 refine(SOpen_ok W (fun k=>FJ k∧k≠p) b σ.j.d most hdv (fun k hk=>Nat.lt_of_lt_of_le (hlW k hk.1) qW.size) hok (fun _=>hpl) hm hop).mono ?_
 rintro e w' ⟨sb2,rfl,h1,t⟩
 have hsz:=qW.size
 have hlow:∀k,grow (fun k=>FJ k∧k≠p) W w' k→w0.heap.size≤k:=fun k hk=>hk.elim (fun hk=>hF k (hsub k (.inl hk.1))) (fun hk=>by have:=q0.size;omega)
 have hns:¬FJ sb:=hg.sF.1
 have hplt:p<w.heap.size:=hg.jr.box.lt
 have hslt:sb<w.heap.size:=hg.box.lt
 have hwlt:wb<w.heap.size:=hb.lt
 refine⟨sb2,p,_,_,rfl,⟨grow (fun k=>FJ k∧k≠p) W w',hlow,fun hc=>hc.elim (fun hc=>hwb (hsub _ (.inl hc.1))) (fun hc=>by omega),fun hc=>hc.elim (fun hc=>hns hc.1) (fun hc=>by omega),fun hc=>hc.elim (fun hc=>hc.2 rfl) (fun hc=>by omega),h1,t.blk (hb.stays qW) (fun hc=>hwb (hsub _ (.inl hc.1))),t.blk (hg.box.stays qW) (fun hc=>hns hc.1),t.blk (hg.jr.box.stays qW) (fun hc=>hc.2 rfl),rfl,rfl,t.low (fun k hk=>hF k (hsub k (.inl hk.1))) (q0.trans qW)⟩,fun a v hn hc=>t.cell (cell_stays qW hc) (fun hf=>?_)⟩
 rcases hn with hn|hn
 ·rw[hn] at hf;exact hwb (hsub _ (.inl hf.1))
 ·have:=hF _ (hsub _ (.inl hf.1));omega
end
section
open Go.RowKit
def DAt(w0 w:World)(wb sb b:Nat)(d:DevL):Prop:=∃F:Nat→Prop,(∀k,F k→w0.heap.size≤k)∧(∀k,F k→k<w.heap.size)∧¬F wb∧DevAt w F b d∧Blk w wb 40 #[ptrV b,ptrV sb]∧Q w0 w
theorem Bools.o{w0 w:World}{v:Value}{l:List Bool}(h:Bools w0 v l)(q:Q w0 w)(F:Nat→Prop)(hF:∀k,F k→w0.heap.size≤k):SlO w F v l.length 1 (l.map .bool):=by
 refine⟨h.stays q,fun hn=>?_⟩
 obtain⟨_,a,cap,rfl,hc⟩:=h
 obtain⟨b,off,rfl,hcell⟩:=hc hn
 have h0:=hcell 0 (.bool (l[0]'hn)) (by simp)
 have hlt:=cell_lt h0
 exact⟨b,off,⟨_,rfl⟩,Nat.lt_of_lt_of_le hlt q.size,fun hf=>by have:=hF _ hf;simp at hlt;omega⟩
section
variable {w0 w:World} {wb sb b:Nat} {d:DevL}
theorem WAt.dv{σ:StL}{K:Nat}(h:WAt w0 w wb sb b σ K):DAt w0 w wb sb b σ.j.d:=by
 obtain⟨F,hF,hwb,hs,hb,q⟩:=h
 obtain⟨G,hG,hsub⟩:=hs.dev
 exact⟨G,fun k hk=>hF k (hsub k hk),fun k hk=>hs.lt k (hsub k hk),fun hk=>hwb (hsub _ hk),hG,hb,q⟩
theorem DAt.q(h:DAt w0 w wb sb b d):Q w0 w:=by
 obtain⟨F,hF,hlt,hwb,hd,hb,q⟩:=h
 exact q
theorem DAt.cell(h:DAt w0 w wb sb b d):w.cell? ⟨wb,0,none⟩=some (ptrV b):=by
 obtain⟨F,hF,hlt,hwb,hd,hb,q⟩:=h
 exact hb.cell 0 _ rfl
theorem DAt.close{F:Nat→Prop}(hF:∀k,F k→w0.heap.size≤k)(hwb:¬F wb)(hb:Blk w wb 40 #[ptrV b,ptrV sb])(q:Q w0 w){W w':World}{G:Nat→Prop}{d':DevL}(qW:Q w W)(t:Turn F W w')(hd:DevAt w' G b d')(hG:∀k,G k→grow F W w' k)(hlt:∀k,F k→k<w.heap.size):DAt w0 w' wb sb b d'∧Keeps w0 wb w w':=by
 have hq:=qW.size;have hq0:=q.size;have hbl:=hb.lt
 refine⟨⟨grow F W w',fun k hk=>hk.elim (hF k) (fun hk=>by omega),fun k hk=>hk.elim (fun hk=>Nat.lt_of_lt_of_le (hlt k hk) (Nat.le_trans hq t.size)) (fun hk=>hk.2),fun hk=>hk.elim hwb (fun hk=>by omega),hd.mono hG,t.blk (hb.stays qW) hwb,t.low hF (q.trans qW)⟩,fun a v hn hc=>t.cell (cell_stays qW hc) (fun hf=>?_)⟩
 rcases hn with hn|hn
 ·rw[hn] at hf;exact hwb hf
 ·have:=hF _ hf;omega
theorem DAt.fuse(h:DAt w0 w wb sb b d)(n:Int):∀W,Q w W→Calls Tryz.prog 33 #[ptrV b,.int .i64 n] W fun e w'=>e=.returned (.tuple #[])∧DAt w0 w' wb sb b (d.setFuse n)∧Keeps w0 wb w w':=by
 intro W qW
 obtain⟨F,hF,hlt,hwb,hd,hb,q⟩:=h
 refine(Fuse_set W F b d n (hd.keep qW)).mono ?_
 rintro e w' ⟨rfl,rfl⟩
 obtain⟨g,cap,pv,hg⟩:=hd.keep qW
 obtain⟨h1,t⟩:=hg.fuse (max n (-1))
 exact⟨rfl,DAt.close hF hwb hb q qW t (⟨g,cap,pv,h1⟩:DevAt _ F b (d.setFuse n)) (fun k hk=>.inl hk) hlt⟩
theorem DAt.crash(h:DAt w0 w wb sb b d)(hok:d.Ok)(hp:d.p.length≤1000000)(kv:Value)(kl:List Bool)(hkb:Bools w0 kv kl)(hkl:kl.length≤1000000)(torn cut:Int):∀W,Q w W→Calls Tryz.prog 34 #[ptrV b,kv,.int .i64 torn,.int .i64 cut] W fun e w'=>e=.returned (.tuple #[])∧DAt w0 w' wb sb b (d.crash kl torn cut)∧Keeps w0 wb w w':=by
 intro W qW
 obtain⟨F,hF,hlt,hwb,hd,hb,q⟩:=h
 refine(Crash_any W F b d kv kl torn cut (hd.keep qW) hok (hkb.o (q.trans qW) F hF) hp hkl).mono ?_
 rintro e w' ⟨rfl,h1,t⟩
 exact⟨rfl,DAt.close hF hwb hb q qW t h1 (fun k hk=>.inl hk) hlt⟩
end
end
section
open Go.RowKit
section
variable {w0 w w' wa:World} {wb sb b mb rs rb K K':Nat} {σ τ:StL} {M:Nat×Nat×Nat×StL} {N:Nat×Nat×Nat×StL×Nat}
theorem RStAt.dev{F:Nat→Prop}(h:RStAt w F sb b σ):∃G:Nat→Prop,RDevAt w G b σ.j.d∧∀k,G k→F k:=by
 obtain⟨FJ,p,tv,h1,h2,h3,h4⟩:=h
 exact⟨FJ,h1.jr.dev,fun k hk=>h2 k (.inl hk)⟩
theorem B7.reopen(h:B7 M w0 w wb sb b σ K):∃G:Nat→Prop,DevAt w G b σ.j.d∧(∀k,G k→k<w.heap.size)∧(∀k,G k→w0.heap.size≤k)∧¬G wb∧Q w0 w ∧
  ∀w6 sb2 σ2 K2,Turn G w w6→StAt w6 (grow G w w6) sb2 b σ2 K2→B7 M w0 (w6.setCell ⟨wb,1,none⟩ (ptrV sb2)) wb sb2 b σ2 K2∧w6.frozen? ⟨wb,1,none⟩=false∧w6.cell? ⟨wb,1,none⟩=some (ptrV sb):=by
 obtain⟨F,G0,f,g,d,n1,n2,n3,n4,h1,h2,b1,b2,q0,hz0⟩:=h
 obtain⟨G,hG,hsub⟩:=h1.dev
 refine⟨G,hG,fun k hk=>h1.lt k (hsub k hk),fun k hk=>f k (hsub k hk),fun hk=>n1 (hsub _ hk),q0,fun w6 sb2 σ2 K2 t h6=>?_⟩
 have hwb:=b1.lt;have hmb:=b2.lt;have hz:=t.size
 have hne:M.1≠wb:=blk_ne b2 b1 (by decide)
 have hgw:¬G wb:=fun hk=>n1 (hsub _ hk)
 have hgm:¬G M.1:=fun hk=>n3 (hsub _ hk)
 have t7:Turn (fun k=>k=wb) w6 (w6.setCell ⟨wb,1,none⟩ (ptrV sb2)):=(Turn.refl (fun k=>k=wb) w6).setCell (a:=⟨wb,1,none⟩) (.inl rfl) _
 have hgl:∀k,grow G w w6 k→k≠wb:=fun k hk e=>by subst e;exact hk.elim hgw (fun hk=>by omega)
 have hB6:=t.blk b1 hgw
 refine⟨⟨grow G w w6,G0,grow_low (fun k hk=>f k (hsub k hk)) q0.size,g,fun k hk hg=>hk.elim (fun hk=>d k (hsub k hk) hg) (fun hk=>by have:=h2.lt k hg;omega),fun hk=>hgl _ hk rfl,n2,fun hg=>hg.elim hgm (fun hg=>by omega),n4,h6.beside t7 hgl,(h2.beside t (fun k hk e=>d k (hsub k e) hk)).beside t7 (fun k hk e=>by subst e;exact n2 hk),hB6.set 1 _,t7.blk (t.blk b2 hgm) hne,Qs.st (t.low (fun k hk=>f k (hsub k hk)) q0) _ _ hz0.1,hz0⟩,hB6.frozen 1,hB6.cell 1 _ rfl⟩
theorem M7.reopen(h:M7 N w0 w mb rs rb τ):∃G:Nat→Prop,RDevAt w G rb τ.j.d∧(∀k,G k→k<w.heap.size)∧(∀k,G k→w0.heap.size≤k)∧¬G mb∧Q w0 w ∧
  ∀w6 rs2 τ2,Turn G w w6→RStAt w6 (grow G w w6) rs2 rb τ2→M7 N w0 (w6.setCell ⟨mb,1,none⟩ (ptrV rs2)) mb rs2 rb τ2∧w6.frozen? ⟨mb,1,none⟩=false∧w6.cell? ⟨mb,1,none⟩=some (ptrV rs):=by
 obtain⟨F,G0,f,g,d,n1,n2,n3,n4,h1,h2,b1,b2,q0,hz0⟩:=h
 obtain⟨G,hG,hsub⟩:=h2.dev
 refine⟨G,hG,fun k hk=>h2.lt k (hsub k hk),fun k hk=>g k (hsub k hk),fun hk=>n4 (hsub _ hk),q0,fun w6 rs2 τ2 t h6=>?_⟩
 have hwb:=b1.lt;have hmb:=b2.lt;have hz:=t.size
 have hne:N.1≠mb:=blk_ne b1 b2 (by decide)
 have hgm:¬G mb:=fun hk=>n4 (hsub _ hk)
 have hgw:¬G N.1:=fun hk=>n2 (hsub _ hk)
 have t7:Turn (fun k=>k=mb) w6 (w6.setCell ⟨mb,1,none⟩ (ptrV rs2)):=(Turn.refl (fun k=>k=mb) w6).setCell (a:=⟨mb,1,none⟩) (.inl rfl) _
 have hgl:∀k,grow G w w6 k→k≠mb:=fun k hk e=>by subst e;exact hk.elim hgm (fun hk=>by omega)
 have hB6:=t.blk b2 hgm
 refine⟨⟨F,grow G w w6,f,grow_low (fun k hk=>g k (hsub k hk)) q0.size,fun k hk hg=>hg.elim (fun hg=>d k hk (hsub k hg)) (fun hg=>by have:=h1.lt k hk;omega),n1,fun hg=>hg.elim hgw (fun hg=>by omega),n3,fun hk=>hgl _ hk rfl,(h1.beside t (fun k hk e=>d k hk (hsub k e))).beside t7 (fun k hk e=>by subst e;exact n3 hk),h6.beside t7 hgl,t7.blk (t.blk b1 hgw) hne,hB6.set 1 _,Qs.st (t.low (fun k hk=>g k (hsub k hk)) q0) _ _ hz0.2,hz0⟩,hB6.frozen 1,hB6.cell 1 _ rfl⟩
end
theorem BDoesO_any(M:Nat×Nat×Nat×StL)(w0 w:World)(wb sb b:Nat)(σ:StL)(K:Nat)(h:B7 M w0 w wb sb b σ K)(ka:Option Addr)(kc:Nat)(a:Act7)(ha:a.Wf)(most:Nat)(hm:64≤most∧most≤1024)(hk:a.k=10)(hkb:Bools w0 (.slice ka a.keep.length kc) a.keep)(hok:σ.j.d.Ok)(hp:σ.j.d.p.length≤1000000)(hkl:a.keep.length≤1000000)(hok2:(σ.j.d.crash a.keep a.at_ a.n).Ok)(hop:OpenOk (σ.j.d.crash a.keep a.at_ a.n)):
  Calls Tryz.prog 8 #[ptrV wb,actV (.slice ka a.keep.length kc) a,.int .i64 (most:Nat)] w fun e w'=>e=.returned (.tuple #[.int .i64 0,strV [],.int .i64 0])∧∃sb2,B7 M w0 w' wb sb2 b (openedS (σ.j.d.crash a.keep a.at_ a.n)) 0:=by
 obtain⟨wa,hwa⟩:∃wa,wa=w.alloc (.cells #[.int .i64 a.op,.int .i64 a.at_,.int .i64 a.n,.slice ka a.keep.length kc,.int .u8 (a.byte.toNat:Nat)] 35):=⟨_,rfl⟩
 have qa:Q w wa:=by rw[hwa];exact Q.alloc _ _
 have hbx:Blk wa w.heap.size 35 (actCs ka a.keep.length kc a):=by rw[hwa];exact Blk.new w _ _
 obtain⟨c1,_⟩:=(h.keep qa).cells
 obtain⟨G,hG,hGs,hGl,hGw,q0,hend⟩:=h.reopen
 have hbF:¬G w.heap.size:=fun hf=>by have:=hGs _ hf;omega
 have hp2:(σ.j.d.crash a.keep a.at_ a.n).p.length=0:=rfl
 have hza:=qa.size
 have hcr:∀W,Q wa W→Calls Tryz.prog 34 #[ptrV b,.slice ka a.keep.length kc,.int .i64 a.at_,.int .i64 a.n] W fun e w'=>e=.returned (.tuple #[])∧DevAt w' G b (σ.j.d.crash a.keep a.at_ a.n)∧Turn G w w'∧Turn G wa w':=fun W q=>(Crash_any W G b _ (.slice ka a.keep.length kc) a.keep a.at_ a.n (hG.keep (qa.trans q)) hok (hkb.o (q0.trans (qa.trans q)) G hGl) hp hkl).mono fun e w' h1=>⟨h1.1,h1.2.1,(Turn.of_q (qa.trans q)).trans h1.2.2,(Turn.of_q q).trans h1.2.2⟩
 have hopn:∀W W2,DevAt W G b (σ.j.d.crash a.keep a.at_ a.n)→Turn G w W→Q W W2→Calls Tryz.prog 35 #[ptrV b,.int .i64 (most:Nat)] W2 fun e w'=>∃sb2,e=.returned (.tuple #[ptrV sb2,.int .i64 0])∧(B7 M w0 (w'.setCell ⟨wb,1,none⟩ (ptrV sb2)) wb sb2 b (openedS (σ.j.d.crash a.keep a.at_ a.n)) 0∧w'.frozen? ⟨wb,1,none⟩=false∧w'.cell? ⟨wb,1,none⟩=some (ptrV sb))∧Turn G W w':=fun W W2 hd t q=>by
  have z1:=t.size;have z2:=q.size
  refine(SOpen_ok W2 G b _ most (hd.keep q) (fun k hk=>by have:=hGs k hk;omega) hok2 (fun _=>by rw[hp2];exact Nat.zero_le _) hm hop).mono ?_
  rintro e w' ⟨sb2,rfl,h1,t1⟩
  have z3:=t1.size
  have tt:Turn G w w':=t.trans ((Turn.of_q q).trans t1)
  exact⟨sb2,rfl,hend w' sb2 _ _ tt (h1.mono (fun k hk=>hk.elim .inl (fun hk=>.inr ⟨by omega,hk.2⟩)) (fun k hk=>hk.elim (fun hk=>by have:=hGs k hk;omega) (fun hk=>hk.2)) (Nat.le_refl _)),(Turn.of_q q).trans t1⟩
 have hpk:=fun (W:World)=>Pick7_any a.op 11 W ha.op.1 ha.op.2 (by decide) (by decide)
 obtain⟨_,b1,b2,b3,_⟩:=hbx.c5
 have HCR:=Lib.hid hcr;have HOP:=Lib.hid hopn;have HPK:=Lib.hid hpk
 have HGW:=Lib.hid hGw;have HBF:=Lib.hid hbF
 have hk':pickZ a.op 11=10:=hk
 clear hcr hopn hpk hGw hbF hend hG hGs hGl q0 hbx qa h hok hok2 hp hp2 hop hkb hk
 generalize σ.j.d.crash a.keep a.at_ a.n=d2 at *
 generalize openedS d2=s2 at *
 unfold actV
 go_enter Tryz.func8,Tryz.ntmps8
 go_wp2_with fail
 rw[←hwa]
 clear hwa
 refine(HPK.out _).mono ?_
 rintro e w1 ⟨rfl,rfl⟩
 have KK:=Lib.hid (Q.refl wa)
 rw[hk']
 clear hk'
 have c0:=show _∧_∧_∧_ from⟨c1,b3,b1,b2⟩
 go_wp2_with fail
 (go_region_held3 (fun w'=>w'.cell? ⟨wb,0,none⟩=some (ptrV b)∧w'.cell? ⟨w.heap.size,3,none⟩=some (.slice ka a.keep.length kc)∧w'.cell? ⟨w.heap.size,1,none⟩=some (.int .i64 a.at_)∧w'.cell? ⟨w.heap.size,2,none⟩=some (.int .i64 a.n))
  (first|exact g0|exact c0|exact four4 (by repeat (first|with_reducible exact KK.out|with_reducible exact Q.refl _|with_reducible apply Qs.dr|with_reducible apply Qs.al)) c0)
  (first
   | (go_at_call 34;with_reducible refine(HCR.out _ (by repeat (first|with_reducible exact KK.out|with_reducible exact Q.refl _|with_reducible apply Qs.dr|with_reducible apply Qs.al))).mono ?_;rintro e w5 ⟨rfl,h5,t5,t6⟩;have g0:=Turn.four4 t6 c0 HGW.out HBF.out;have H5:=Lib.hid h5;have T5:=Lib.hid t5;clear h5 t5 t6)))
 all_goals
  obtain⟨e1,_⟩:=g0
  have hop:=HOP.out _ _ H5.out T5.out (Q.refl _)
  have HO2:=Lib.hid hop
  clear hop
  go_wp2_with fail
  refine HO2.out.mono ?_
  rintro e w6 ⟨sb2,rfl,h6,t6⟩
  have f1:=h6.2.1
  have f2:=h6.2.2
  have H6:=Lib.hid h6.1
  clear h6
  go_wp2_with fail
  go_ret3
  exact⟨rfl,_,H6.out⟩
theorem MDoesO_any(N:Nat×Nat×Nat×StL×Nat)(w0 w:World)(wb sb b:Nat)(σ:StL)(h:M7 N w0 w wb sb b σ)(ka:Option Addr)(kc:Nat)(a:Act7)(ha:a.Wf)(hk:a.k=10)(hkb:Bools w0 (.slice ka a.keep.length kc) a.keep)(hok:σ.j.d.Ok)(hp:σ.j.d.p.length≤1000000)(hkl:a.keep.length≤1000000)(hok2:(σ.j.d.crash a.keep a.at_ a.n).Ok){KK:Nat}{s:SlotL}{kk:Nat}{fr:List (List WrL)}{C:Nat→Bytes}(hop:OpenPre 60 KK (σ.j.d.crash a.keep a.at_ a.n) s kk fr C)(hgc:GoodC (σ.j.d.crash a.keep a.at_ a.n).l.length C)(hn:128≤(σ.j.d.crash a.keep a.at_ a.n).l.length)(hKK:KK+3<18446744073709551616)(he:(openJ (σ.j.d.crash a.keep a.at_ a.n)).2=0):
  Calls Tryz.prog 9 #[ptrV wb,actV (.slice ka a.keep.length kc) a] w fun e w'=>e=.returned (.tuple #[.int .i64 0,strV [],.int .i64 0])∧∃sb2,M7 N w0 w' wb sb2 b (openedS (σ.j.d.crash a.keep a.at_ a.n)):=by
 obtain⟨wa,hwa⟩:∃wa,wa=w.alloc (.cells #[.int .i64 a.op,.int .i64 a.at_,.int .i64 a.n,.slice ka a.keep.length kc,.int .u8 (a.byte.toNat:Nat)] 35):=⟨_,rfl⟩
 have qa:Q w wa:=by rw[hwa];exact Q.alloc _ _
 have hbx:Blk wa w.heap.size 35 (actCs ka a.keep.length kc a):=by rw[hwa];exact Blk.new w _ _
 obtain⟨c1,_⟩:=(h.keep qa).cells
 obtain⟨G,hG,hGs,hGl,hGw,q0,hend⟩:=h.reopen
 have hbF:¬G w.heap.size:=fun hf=>by have:=hGs _ hf;omega
 have hp2:(σ.j.d.crash a.keep a.at_ a.n).p.length=0:=rfl
 have hza:=qa.size
 have hcr:∀W,Q wa W→Calls Tryz.prog 44 #[ptrV b,.slice ka a.keep.length kc,.int .i64 a.at_,.int .i64 a.n] W fun e w'=>e=.returned (.tuple #[])∧RDevAt w' G b (σ.j.d.crash a.keep a.at_ a.n)∧Turn G w w'∧Turn G wa w':=fun W q=>(RCrash_any W G b _ (.slice ka a.keep.length kc) a.keep a.at_ a.n (hG.keep (qa.trans q)) hok (hkb.o (q0.trans (qa.trans q)) G hGl) hp hkl).mono fun e w' h1=>⟨h1.1,h1.2.1,(Turn.of_q (qa.trans q)).trans h1.2.2,(Turn.of_q q).trans h1.2.2⟩
 have hopn:∀W W2,RDevAt W G b (σ.j.d.crash a.keep a.at_ a.n)→Turn G w W→Q W W2→Calls Tryz.prog 30 #[ptrV b,.int .i64 64] W2 fun e w'=>∃sb2,e=.returned (.tuple #[ptrV sb2,.int .i64 0])∧(M7 N w0 (w'.setCell ⟨wb,1,none⟩ (ptrV sb2)) wb sb2 b (openedS (σ.j.d.crash a.keep a.at_ a.n))∧w'.frozen? ⟨wb,1,none⟩=false∧w'.cell? ⟨wb,1,none⟩=some (ptrV sb))∧Turn G W w':=fun W W2 hd t q=>by
  have z1:=t.size;have z2:=q.size
  refine(ROpen7_ok W2 G b _ (hd.keep q) (fun k hk=>by have:=hGs k hk;omega) hop hgc hn hKK (by rw[hp2];exact Nat.zero_le _) he).mono ?_
  rintro e w' ⟨sb2,rfl,h1,t1⟩
  have z3:=t1.size
  have tt:Turn G w w':=t.trans ((Turn.of_q q).trans t1)
  exact⟨sb2,rfl,hend w' sb2 _ tt (h1.mono (fun k hk=>hk.elim .inl (fun hk=>.inr ⟨by omega,hk.2⟩)) (fun k hk=>hk.elim (fun hk=>by have:=hGs k hk;omega) (fun hk=>hk.2))),(Turn.of_q q).trans t1⟩
 have hpk:=fun (W:World)=>Pick7_any a.op 11 W ha.op.1 ha.op.2 (by decide) (by decide)
 obtain⟨_,b1,b2,b3,_⟩:=hbx.c5
 have HCR:=Lib.hid hcr;have HOP:=Lib.hid hopn;have HPK:=Lib.hid hpk
 have HGW:=Lib.hid hGw;have HBF:=Lib.hid hbF
 have hk':pickZ a.op 11=10:=hk
 clear hcr hopn hpk hGw hbF hend hG hGs hGl q0 hbx qa h hok hok2 hp hp2 hop hkb hk hgc hn hKK he
 generalize σ.j.d.crash a.keep a.at_ a.n=d2 at *
 generalize openedS d2=s2 at *
 unfold actV
 go_enter Tryz.func9,Tryz.ntmps9
 go_wp2_with fail
 rw[←hwa]
 clear hwa
 refine(HPK.out _).mono ?_
 rintro e w1 ⟨rfl,rfl⟩
 have KK:=Lib.hid (Q.refl wa)
 rw[hk']
 clear hk'
 have c0:=show _∧_∧_∧_ from⟨c1,b3,b1,b2⟩
 go_wp2_with fail
 (go_region_held3 (fun w'=>w'.cell? ⟨wb,0,none⟩=some (ptrV b)∧w'.cell? ⟨w.heap.size,3,none⟩=some (.slice ka a.keep.length kc)∧w'.cell? ⟨w.heap.size,1,none⟩=some (.int .i64 a.at_)∧w'.cell? ⟨w.heap.size,2,none⟩=some (.int .i64 a.n))
  (first|exact g0|exact c0|exact four4 (by repeat (first|with_reducible exact KK.out|with_reducible exact Q.refl _|with_reducible apply Qs.dr|with_reducible apply Qs.al)) c0)
  (first
   | (go_at_call 44;with_reducible refine(HCR.out _ (by repeat (first|with_reducible exact KK.out|with_reducible exact Q.refl _|with_reducible apply Qs.dr|with_reducible apply Qs.al))).mono ?_;rintro e w5 ⟨rfl,h5,t5,t6⟩;have g0:=Turn.four4 t6 c0 HGW.out HBF.out;have H5:=Lib.hid h5;have T5:=Lib.hid t5;clear h5 t5 t6)))
 all_goals
  obtain⟨e1,_⟩:=g0
  have hop:=HOP.out _ _ H5.out T5.out (Q.refl _)
  have HO2:=Lib.hid hop
  clear hop
  go_wp2_with fail
  refine HO2.out.mono ?_
  rintro e w6 ⟨sb2,rfl,h6,t6⟩
  have f1:=h6.2.1
  have f2:=h6.2.2
  have H6:=Lib.hid h6.1
  clear h6
  go_wp2_with fail
  go_ret3
  exact⟨rfl,_,H6.out⟩
end
section
structure Play7 (k:Nat) (σ:StL):Prop where
 n:σ.n=132
 ex:(∃fr C,StInv (5+2*k) σ fr C)∨(σ.dead=true∧σ.open_=false∧σ.tx=[]∧σ.map1.length=256*partsN σ.n∧(∃C D,Two (5+2*k) 132 σ.j.d C D)∧σ.j.d.p.length≤1000000)
theorem Play7.know{k:Nat}{σ:StL}(h:Play7 k σ)(hk:k≤1000):RKnow σ:=by
 obtain⟨hn,⟨fr,C,hi⟩|⟨h1,h2,h3,h4,h5,h6⟩⟩:=h
 ·exact hi.know (by omega)
 ·exact⟨⟨by omega,by omega,h4,fun e=>by rw[h1] at e;exact absurd e (by decide)⟩,fun e=>by rw[h1] at e;exact absurd e (by decide)⟩
theorem Play7.pre{k:Nat}{σ:StL}(h:Play7 k σ)(hk:k≤1000):σ.state true=0→σ.tx≠[]→ComPre σ:=by
 obtain⟨hn,⟨fr,C,hi⟩|⟨h1,h2,h3,h4,h5,h6⟩⟩:=h
 ·exact commit_pre hi (by omega)
 ·intro _ hx;exact absurd h3 hx
theorem Play7.closed{k:Nat}{σ:StL}(h:Play7 k σ):σ.open_=false→σ.tx=[]:=by
 obtain⟨hn,⟨fr,C,hi⟩|⟨h1,h2,h3,h4,h5,h6⟩⟩:=h
 ·exact hi.closed
 ·intro _;exact h3
theorem Play7.low{k:Nat}{σ:StL}(h:Play7 k σ)(hd:σ.dead=false):∀i,i<firstD σ.n→bit σ.map1 i=true:=by
 obtain⟨hn,⟨fr,C,hi⟩|⟨h1,h2,h3,h4,h5,h6⟩⟩:=h
 ·exact hi.map.low
 ·rw[h1] at hd;exact absurd hd (by decide)
theorem Play7.two{k:Nat}{σ:StL}(h:Play7 k σ):(∃C D,Two (5+2*k) 132 σ.j.d C D)∧σ.j.d.p.length≤1000000:=by
 obtain⟨hn,⟨fr,C,hi⟩|⟨h1,h2,h3,h4,h5,h6⟩⟩:=h
 ·have:=hi.two
  rw[hn] at this
  exact⟨⟨C,C,this⟩,Nat.le_trans hi.inv.plen (by decide)⟩
 ·exact⟨h5,h6⟩
theorem dead_does{σ:StL}(h1:σ.dead=true)(h2:σ.open_=false)(a:Act7):doesS a σ=σ:=by
 have hs:∀o,σ.state o=4:=fun o=>by unfold StL.state;rw[if_pos h1]
 unfold doesS
 split
 ·unfold StL.write;rw[hs,if_pos (by decide)]
 ·split
  ·unfold StL.alloc;rw[hs,if_pos (by decide)]
  ·split
   ·unfold StL.release;rw[hs,if_pos (by decide)]
   ·split
    ·unfold StL.begin;rw[hs,if_pos (by decide)]
    ·split
     ·unfold StL.commit;rw[hs,if_pos (by decide)]
     ·split
      ·unfold StL.abort;rw[h2,if_neg (by decide)]
      ·rfl
theorem Play7.does{k:Nat}{σ:StL}(h:Play7 k σ)(a:Act7)(hk:a.k<9)(hk2:k≤1000):Play7 (k+1) (doesS a σ):=by
 obtain⟨hn,⟨fr,C,hi⟩|⟨h1,h2,h3,h4,⟨C,D,h5⟩,h6⟩⟩:=h
 ·rcases does_run hi a hk (by omega) with ⟨_,b,_,fr',d⟩|⟨e4,e6,e,d⟩
  ·exact⟨by rw[b];exact hn,.inl ⟨fr',_,by rw[show 5+2*(k+1)=5+2*k+2 by omega];exact d⟩⟩
  ·have hS:doesS a σ=σ.commit.1:=by
    unfold doesS;rw[if_neg (by omega),if_neg (by omega),if_neg (by omega),if_neg (by omega),if_pos e6]
   have hE:doesE a σ=σ.commit.2:=by
    unfold doesE;rw[if_neg (by omega),if_neg (by omega),if_neg (by omega),if_neg (by omega),if_pos e6]
   have hpl:=does_plen hi a e6
   rw[hS] at d hpl ⊢
   rw[hE] at e4
   have hnn:σ.commit.1.n=132:=(commit_n σ).trans hn
   refine⟨hnn,.inr ?_⟩
   rcases scommit_run hi (by omega) with ⟨x,_⟩|⟨x,_⟩|⟨_,x,_⟩
   ·rw[x] at e4;exact absurd e4 (by decide)
   ·rw[x] at e4;exact absurd e4 (by decide)
   ·have hst:σ.state true=0:=by
     have hl:σ.dead=false:=hi.inv.live
     cases ho:σ.open_ with
     | true=>unfold StL.state;rw[hl,if_neg (by decide),ho,if_pos rfl]
     | false =>
      have:σ.state true=15:=by unfold StL.state;rw[hl,if_neg (by decide),ho,if_neg (by decide)]
      unfold StL.commit at e4
      rw[this,if_pos (by decide)] at e4
      exact absurd (show(15:Int)=4 from e4) (by decide)
    have ho:σ.open_=true:=(StL.live_of hst).2
    have hcm:σ.commit.1.open_=false∧σ.commit.1.tx=[]∧(σ.commit.1.map1=σ.map1∨σ.commit.1.map1=σ.was):=by
     unfold StL.commit
     rw[if_neg (by rw[hst];decide)]
     split
     ·exact⟨rfl,rfl,.inl rfl⟩
     ·split
      ·exact⟨rfl,rfl,.inl rfl⟩
      ·exact⟨rfl,rfl,.inr rfl⟩
    refine⟨x,hcm.1,hcm.2.1,?_,⟨C,updC C σ.tx,?_⟩,Nat.le_trans hpl (by decide)⟩
    ·rw[commit_n]
     rcases hcm.2.2 with e|e
     ·rw[e];exact hi.map.len
     ·rw[e,hi.hwas ho];exact hi.good.map.len
    ·rw[hn] at d
     rw[show 5+2*(k+1)=5+2*k+2 by omega];exact d
 ·rw[dead_does h1 h2 a]
  exact⟨hn,.inr ⟨h1,h2,h3,h4,⟨C,D,h5.mono (by omega)⟩,h6⟩⟩
theorem Play7.fuse{k:Nat}{σ:StL}(h:Play7 k σ)(f:Int)(hf:f≤1000):Play7 (k+1) (σ.fuse f):=by
 obtain⟨hn,⟨fr,C,hi⟩|⟨h1,h2,h3,h4,⟨C,D,⟨t1,t2,t3,t4,t5⟩⟩,h6⟩⟩:=h
 ·exact⟨hn,.inl ⟨fr,C,stinv_mono (fuse_inv hi f (by omega)) (by omega)⟩⟩
 ·exact⟨hn,.inr ⟨h1,h2,h3,h4,⟨C,D,⟨setFuse_ok t1 f (by omega),t2,t3,t4,Safe.mono (show Safe 60 (5+2*k) (σ.j.d.setFuse f) _ from t5) (by omega) (fun _ h=>h)⟩⟩,h6⟩⟩
theorem Play7.crash{k:Nat}{σ:StL}(h:Play7 k σ)(hk:k≤1000)(kl:List Bool)(torn cut:Int):
  σ.j.d.Ok∧σ.j.d.p.length≤1000000∧(σ.j.d.crash kl torn cut).Ok∧OpenOk (σ.j.d.crash kl torn cut)∧Play7 (k+1) (openedS (σ.j.d.crash kl torn cut)) ∧
   ∃C s kk fr,OpenPre 60 (5+2*k) (σ.j.d.crash kl torn cut) s kk fr C∧GoodC (σ.j.d.crash kl torn cut).l.length C∧128≤(σ.j.d.crash kl torn cut).l.length∧(openJ (σ.j.d.crash kl torn cut)).2=0:=by
 obtain⟨⟨C,D,ht⟩,hp⟩:=h.two
 obtain⟨E,hE,hg,s,kk,fr,hpre⟩:=two_open ht kl torn cut (-1) (by decide) (by decide)
 have hpre2:OpenPre 60 (5+2*k) (σ.j.d.crash kl torn cut) s kk fr E:=hpre
 have hln:(σ.j.d.crash kl torn cut).l.length=132:=by
  show(DevL.crashL kl torn _ 0 σ.j.d.l σ.j.d.p).length=132
  rw[DevL.crashL_length];exact ht.2.1
 have hz:(openJ (σ.j.d.crash kl torn cut)).2=0:=by
  rcases open_code hpre2 (by omega) with e|⟨_,_,_,_,e⟩
  ·exact e
  ·exact absurd rfl e
 obtain⟨o1,o2,o3⟩:=open_good hpre2 (by rw[hln];exact hg) (by omega) (by omega) hz
 exact⟨ht.1,hp,hpre2.ok,o1,⟨o3.trans hln,.inl ⟨[],E,stinv_mono o2 (by omega)⟩⟩,E,s,kk,fr,hpre2,by rw[hln];exact hg,by omega,hz⟩
theorem play7_start:Play7 0 (startS 132):=by
 obtain⟨_,_,i0,n0,f0,_⟩:=start_all 132 (by decide) (by decide)
 exact⟨n0,.inl ⟨_,_,i0⟩⟩
end
section
open Go.RowKit
theorem SameT_any(w:World)(va vb:Value)(l:List Bytes)(ha:Sl w va l.length 1 (l.map strV))(hb:Sl w vb l.length 1 (l.map strV))(hl:l.length≤1000000):
  Calls Tryz.prog 13 #[va,vb] w fun e w'=>e=.returned (.bool true)∧Q w w':=by
 obtain⟨aa,ca,rfl,hca⟩:=ha.value
 obtain⟨ab,cb,rfl,hcb⟩:=hb.value
 have hcell:∀k (hk:k<l.length),∃ga oa gb ob,aa=some ⟨ga,oa,none⟩∧ab=some ⟨gb,ob,none⟩∧w.cell? ⟨ga,oa+k,none⟩=some (strV l[k])∧w.cell? ⟨gb,ob+k,none⟩=some (strV l[k]):=fun k hk=>by
  obtain⟨ga,oa,rfl,h1⟩:=hca (by omega)
  obtain⟨gb,ob,rfl,h2⟩:=hcb (by omega)
  exact⟨ga,oa,gb,ob,rfl,rfl,h1 k _ (by simp[hk]),h2 k _ (by simp[hk])⟩
 have HC:=Lib.hid hcell
 clear hcell hca hcb ha hb
 go_enter Tryz.func13,Tryz.ntmps13
 go_wp2_with fail
 go_loopw [5] (fun iv wr=>∃k:Nat,iv=.int .i64 (k:Nat)∧k≤l.length∧Hid (Q w wr)) (fun iv _=>l.length-(intOf iv).toNat)
 case atStart=>exact⟨0,rfl,Nat.zero_le _,Lib.hid (Q.refl _)⟩
 case round =>
  obtain⟨k,rfl,hk,HQ⟩:=hrel
  by_cases hlt:k<l.length
  ·have hki:(k:Int)<(l.length:Int):=by omega
   have hk0:(0:Int)≤(k:Int):=by omega
   obtain⟨ga,oa,gb,ob,rfl,rfl,x1,x2⟩:=HC.out k hlt
   have y1:=cellQ HQ.out x1;have y2:=cellQ HQ.out x2
   clear x1 x2
   generalize l[k]=s at *
   have hbs:(s != s)=false:=by simp
   go_wp2_with fail
   go_quiet (fail)
   go_wp2_with fail
   go_roundw
   case rel=>exact⟨k+1,by go_num,by omega,Lib.hid (HQ.out.trans (Q.drewN _ _))⟩
   case measure=>simp[intOf];omega
  ·have hki:¬(k:Int)<(l.length:Int):=by omega
   go_wp2_with fail
   go_ret
   exact⟨rfl,HQ.out⟩
theorem SameX_any(w:World)(va vb:Value)(rs:List (Nat×Nat))(ha:Sl w va rs.length 2 (ext rs))(hb:Sl w vb rs.length 2 (ext rs))(hl:rs.length≤1000000):
  Calls Tryz.prog 15 #[va,vb] w fun e w'=>e=.returned (.bool true)∧Q w w':=by
 obtain⟨aa,ca,rfl,hca⟩:=ha.value
 obtain⟨ab,cb,rfl,hcb⟩:=hb.value
 have hcell:∀k (hk:k<rs.length),∃ga oa gb ob,aa=some ⟨ga,oa,none⟩∧ab=some ⟨gb,ob,none⟩∧w.cell? ⟨ga,oa+k*2,none⟩=some (.int .i64 rs[k].1)∧w.cell? ⟨ga,oa+k*2+1,none⟩=some (.int .i64 rs[k].2)∧w.cell? ⟨gb,ob+k*2,none⟩=some (.int .i64 rs[k].1)∧w.cell? ⟨gb,ob+k*2+1,none⟩=some (.int .i64 rs[k].2):=fun k hk=>by
  obtain⟨ga,oa,rfl,h1⟩:=hca (by omega)
  obtain⟨gb,ob,rfl,h2⟩:=hcb (by omega)
  have he:=ext_at rs k hk
  rw[Nat.mul_comm 2 k] at he
  exact⟨ga,oa,gb,ob,rfl,rfl,h1 _ _ he.1,by rw[Nat.add_assoc];exact h1 _ _ he.2,h2 _ _ he.1,by rw[Nat.add_assoc];exact h2 _ _ he.2⟩
 have HC:=Lib.hid hcell
 clear hcell hca hcb ha hb
 go_enter Tryz.func15,Tryz.ntmps15
 go_wp2_with fail
 go_loopw [5] (fun iv wr=>∃k:Nat,iv=.int .i64 (k:Nat)∧k≤rs.length∧Hid (Q w wr)) (fun iv _=>rs.length-(intOf iv).toNat)
 case atStart=>exact⟨0,rfl,Nat.zero_le _,Lib.hid (Q.refl _)⟩
 case round =>
  obtain⟨k,rfl,hk,HQ⟩:=hrel
  by_cases hlt:k<rs.length
  ·have hki:(k:Int)<(rs.length:Int):=by omega
   have hk0:(0:Int)≤(k:Int):=by omega
   obtain⟨ga,oa,gb,ob,rfl,rfl,x1,x2,x3,x4⟩:=HC.out k hlt
   have y1:=cellQ HQ.out x1;have y2:=cellQ HQ.out x2;have y3:=cellQ HQ.out x3;have y4:=cellQ HQ.out x4
   clear x1 x2 x3 x4
   generalize rs[k]=r at *
   obtain⟨r1,r2⟩:=r
   go_wp2_with fail
   go_quiet (fail)
   go_wp2_with fail
   go_roundw
   case rel=>exact⟨k+1,by go_num,by omega,Lib.hid (HQ.out.trans (Q.drewN _ _))⟩
   case measure=>simp[intOf];omega
  ·have hki:¬(k:Int)<(rs.length:Int):=by omega
   go_wp2_with fail
   go_ret
   exact⟨rfl,HQ.out⟩
end
section
open Go.RowKit
section
variable {w1 w:World} {wb sb b mb rs rb K:Nat} {σ τ:StL}
theorem Both_step{k:Nat}(hb:BothAt w1 w wb sb b σ (2*k) mb rs rb σ)(hg:Play7 k σ)(hk:k≤1000)(ka:Option Addr)(kc:Nat)(a:Act7)(ha:a.Wf)(hkb:Bools w1 (.slice ka a.keep.length kc) a.keep)(hkl:a.keep.length≤1000000)(most:Nat)(hm:64≤most∧most≤1024):
  ∃(n:Int) (t:Bytes) (er:Int) (σ2:StL),Play7 (k+1) σ2 ∧
   (Calls Tryz.prog 8 #[ptrV wb,actV (.slice ka a.keep.length kc) a,.int .i64 (most:Nat)] w fun e w'=>e=.returned (.tuple #[.int .i64 n,strV t,.int .i64 er])∧∃sb2,BothAt w1 w' wb sb2 b σ2 (2*(k+1)) mb rs rb σ) ∧
   ∀W sb2,BothAt w1 W wb sb2 b σ2 (2*(k+1)) mb rs rb σ →
    Calls Tryz.prog 9 #[ptrV mb,actV (.slice ka a.keep.length kc) a] W fun e w'=>e=.returned (.tuple #[.int .i64 n,strV t,.int .i64 er])∧∃rs2,BothAt w1 w' wb sb2 b σ2 (2*(k+1)) mb rs2 rb σ2:=by
 have hkn:=hg.know hk
 have h11:a.k<11:=pickZ_lt a.op 11 (by decide)
 rcases (by omega:a.k<9∨a.k=9∨a.k=10) with h9|h9|h9
 ·refine⟨doesN a σ,doesT a σ,doesE a σ,doesS a σ,hg.does a h9 hk,?_,fun W sb2 hB=>?_⟩
  ·exact(BDoes7_any (mb,rs,rb,σ) w1 w wb sb b σ (2*k) hb hkn.num (hg.pre hk) (by omega) ka a.keep.length kc a ha most h9).mono fun e w' h=>⟨h.1,sb,h.2⟩
  ·exact(MDoes7_any (wb,sb2,b,doesS a σ,2*(k+1)) w1 W mb rs rb σ hB hkn hg.closed ka a.keep.length kc a ha h9).mono fun e w' h=>⟨h.1,rs,h.2⟩
 ·have hp2:=pickZ_lt a.n 200 (by decide)
  refine⟨0,[],0,σ.fuse (pickZ a.n 200:Nat),hg.fuse _ (by omega),?_,fun W sb2 hB=>?_⟩
  ·exact(BDoesF_any (mb,rs,rb,σ) w1 w wb sb b σ (2*k) hb ka a.keep.length kc a ha most h9).mono fun e w' h=>⟨h.1,sb,BothAt.mono h.2 (by omega)⟩
  ·exact(MDoesF_any (wb,sb2,b,σ.fuse (pickZ a.n 200:Nat),2*(k+1)) w1 W mb rs rb σ hB ka a.keep.length kc a ha h9).mono fun e w' h=>⟨h.1,rs,h.2⟩
 ·obtain⟨c1,c2,c3,c4,c5,C,s,kk,fr,c6,c7,c8,c9⟩:=hg.crash hk a.keep a.at_ a.n
  refine⟨0,[],0,openedS (σ.j.d.crash a.keep a.at_ a.n),c5,?_,fun W sb2 hB=>?_⟩
  ·exact(BDoesO_any (mb,rs,rb,σ) w1 w wb sb b σ (2*k) hb ka kc a ha most hm h9 hkb c1 c2 hkl c3 c4).mono fun e w' h=>⟨h.1,h.2.choose,BothAt.mono h.2.choose_spec (by omega)⟩
  ·exact(MDoesO_any (wb,sb2,b,openedS (σ.j.d.crash a.keep a.at_ a.n),2*(k+1)) w1 W mb rs rb σ hB ka kc a ha h9 hkb c1 c2 hkl c3 c6 c7 c8 (by omega) c9).mono fun e w' h=>⟨h.1,h.2⟩
theorem BothAt.dead(h:BothAt w1 w wb sb b σ K mb rs rb τ):∀W,Q w W→Calls Tryz.prog 10 #[ptrV b] W fun e w'=>e=.returned (.bool σ.dead)∧W=w':=by
 obtain⟨F,G0,f,g,d,n1,n2,n3,n4,h1,h2,b1,b2,q0,hz0⟩:=h
 obtain⟨G,hG,_⟩:=h1.dev
 exact fun W q=>Dead_any W G b _ (hG.keep q)
theorem BothAt.freeR(h:BothAt w1 w wb sb b σ K mb rs rb τ)(hn:StNum σ):∀W,Q w W→Calls Tryz.prog 11 #[ptrV sb] W fun e w'=>e=.returned (.int .i64 (σ.free:Nat))∧Q W w':=h.w.freeK hn
theorem BothAt.freeM(h:BothAt w1 w wb sb b σ K mb rs rb τ)(hk:RKnow τ)(hd:τ.dead=false):∀W,Q w W→Calls Tryz.prog 12 #[ptrV rs] W fun e w'=>e=.returned (.int .i64 (τ.free:Nat))∧Q W w':=by
 obtain⟨F,G0,f,g,d,n1,n2,n3,n4,h1,h2,b1,b2,q0,hz0⟩:=h
 exact fun W q=>RFree7_any (h2.keep q) hk hd
theorem BothAt.usedW(h:BothAt w1 w wb sb b σ K mb rs rb τ)(hn:StNum σ):∀W,Q w W→Calls Tryz.prog 16 #[ptrV sb] W fun e w'=>∃v,e=.returned v∧Sl w' v (usedR σ.map1 (firstD σ.n) σ.n).length 2 (ext (usedR σ.map1 (firstD σ.n) σ.n))∧Q W w':=by
 obtain⟨F,G0,f,g,d,n1,n2,n3,n4,h1,h2,b1,b2,q0,hz0⟩:=h
 refine fun W q=>(SUsed_any W F sb b σ K (h1.keep q) hn).mono ?_
 rintro e w' ⟨v,rfl,h3,q3⟩
 exact⟨v,rfl,Sl.of_owns h3,q3⟩
theorem BothAt.usedM(h:BothAt w1 w wb sb b σ K mb rs rb τ)(hk:RKnow τ)(hd:τ.dead=false)(hl:∀i,i<firstD τ.n→bit τ.map1 i=true):∀W,Q w W→Calls Tryz.prog 17 #[ptrV rs] W fun e w'=>∃v,e=.returned v∧Sl w' v (usedR τ.map1 (firstD τ.n) τ.n).length 2 (ext (usedR τ.map1 (firstD τ.n) τ.n))∧Q W w':=by
 obtain⟨F,G0,f,g,d,n1,n2,n3,n4,h1,h2,b1,b2,q0,hz0⟩:=h
 refine fun W q=>(RUsed7_any (h2.keep q) hk hd hl).mono ?_
 rintro e w' ⟨v,rfl,h3,q3⟩
 exact⟨v,rfl,Sl.of_owns h3,q3⟩
theorem BothAt.disk(h:BothAt w1 w wb sb b σ K mb rs rb τ)(hn:σ.n≤4096):∀W,Q w W→Calls Tryz.prog 14 #[ptrV b] W fun e w'=>∃v,e=.returned v∧Sl w' v σ.j.d.l.length 1 (σ.j.d.l.map strV)∧Q W w':=by
 obtain⟨F,G0,f,g,d,n1,n2,n3,n4,h1,h2,b1,b2,q0,hz0⟩:=h
 obtain⟨G,hG,_⟩:=h1.dev
 refine fun W q=>(Disk_any W G b _ (hG.keep q) hn).mono ?_
 rintro e w' ⟨v,rfl,h3,q3⟩
 exact⟨v,rfl,Sl.of_owns h3,q3⟩
theorem BothAt.texts(h:BothAt w1 w wb sb b σ K mb rs rb τ):∃lv,w.cell? ⟨rb,0,none⟩=some lv∧Sl w lv τ.j.d.l.length 1 (τ.j.d.l.map strV):=by
 obtain⟨F,G0,f,g,d,n1,n2,n3,n4,h1,h2,b1,b2,q0,hz0⟩:=h
 obtain⟨G,⟨lv,pv,hG⟩,_⟩:=h2.dev
 exact⟨lv,hG.box.cell 0 _ rfl,Sl.of_owns hG.lrow⟩
end
end
section
open Go.RowKit
theorem three3{w w':World}(q:Q w w'){a0 a1 a2:Addr}{v0 v1 v2:Value}(h:w.cell? a0=some v0∧w.cell? a1=some v1∧w.cell? a2=some v2):w'.cell? a0=some v0∧w'.cell? a1=some v1∧w'.cell? a2=some v2:=⟨cell_stays q h.1,cell_stays q h.2.1,cell_stays q h.2.2⟩
theorem Sl.stayQ{w w':World}{v:Value}{n size:Nat}{xs:List Value}(h:Sl w v n size xs)(q:Q w w'):Sl w' v n size xs:=h.stays q
theorem five5{w w':World}(q:Q w w'){a0 a1 a2 a3 a4:Addr}{v0 v1 v2 v3 v4:Value}(h:w.cell? a0=some v0∧w.cell? a1=some v1∧w.cell? a2=some v2∧w.cell? a3=some v3∧w.cell? a4=some v4):w'.cell? a0=some v0∧w'.cell? a1=some v1∧w'.cell? a2=some v2∧w'.cell? a3=some v3∧w'.cell? a4=some v4:=⟨cell_stays q h.1,cell_stays q h.2.1,cell_stays q h.2.2.1,cell_stays q h.2.2.2.1,cell_stays q h.2.2.2.2⟩
theorem Plays7_walk(m:Int)(v:Value)(l:List Act7)(w:World)(hv:Acts7 w v l)(m0 : -9223372036854775808≤m)(m1:m≤9223372036854775807)(hl:Acts7Wf l):
  Calls Tryz.prog 3 #[.int .i64 m,v] w fun e w'=>e=.returned (.bool true)∧Below w.heap.size w w':=by
 have hsh:=fun (W:World)=>Shown7_any W
 have hsm:=fun (W:World) (q:Q w W)=>Small7_any v l W (hv.stays q) hl
 have hpm:∀W,Calls Tryz.prog 6 #[.int .i64 m,.int .i64 100] W fun e w'=>e=.returned (.int .i64 (pickZ m 100:Nat))∧W=w':=fun W=>Pick7_any m 100 W m0 m1 (by decide) (by decide)
 have hml:=pickZ_lt m 100 (by decide)
 have hbg:=fun (W:World)=>Begin7_any W (64+pickZ m 100) (by omega)
 have hstp:=fun (w1 wr:World) (wb sb b mb rs rb k:Nat) (σ:StL) (hB:BothAt w1 wr wb sb b σ (2*k) mb rs rb σ) (hg:Play7 k σ) (hk:k≤1000) (ka:Option Addr) (kc:Nat) (a:Act7) (ha:a.Wf) (hkb:Bools w1 (.slice ka a.keep.length kc) a.keep) (hkl:a.keep.length≤1000000)=>Both_step hB hg hk ka kc a ha hkb hkl (64+pickZ m 100) (by omega)
 rw[show((64+pickZ m 100:Nat):Int)=64+((pickZ m 100:Nat):Int) by omega] at hbg hstp
 obtain⟨va,vc,rfl,hcell⟩:=hv.value
 have hwf:=hl.2
 have hsst:=fun (W:World) (va vb:Value) (l:List Bytes) (ha:Sl W va l.length 1 (l.map strV)) (hb:Sl W vb l.length 1 (l.map strV)) (hl:l.length≤1000000)=>SameT_any W va vb l ha hb hl
 have hssx:=fun (W:World) (va vb:Value) (rs:List (Nat×Nat)) (ha:Sl W va rs.length 2 (ext rs)) (hb:Sl W vb rs.length 2 (ext rs)) (hl:rs.length≤1000000)=>SameX_any W va vb rs ha hb hl
 have HSH:=Lib.hid hsh;have HSM:=Lib.hid hsm;have HBG:=Lib.hid hbg;have HCE:=Lib.hid hcell;have HWF:=Lib.hid hwf;have HPM:=Lib.hid hpm;have HSTP:=Lib.hid hstp;have HST:=Lib.hid hsst;have HSX:=Lib.hid hssx
 have hl0:=hl.1
 clear hsh hsm hbg hcell hwf hv hl hpm hstp hsst hssx
 generalize pickZ m 100=pm at *
 have hwm:IntKind.i64.wrap (64+(pm:Int))=64+(pm:Int):=IntWalk.i64_in _ (by omega)
 go_enter Tryz.func3,Tryz.ntmps3
 go_wp2_with fail
 refine(HSH.out _).mono ?_
 rintro e w1 ⟨rfl,q1⟩
 have Q1:=Lib.hid q1
 clear q1
 go_wp2_with fail
 refine(HSM.out _ Q1.out).mono ?_
 rintro e w2 ⟨rfl,rfl⟩
 cases hsb:small7B l with
 | false =>
  go_wp2_with fail
  go_ret
  exact⟨rfl,Q1.out⟩
 | true =>
  obtain⟨hl80,hkeep⟩:=small7_wf hsb
  have HKEEP:=Lib.hid hkeep
  clear hsb hkeep
  have HBG1:=Lib.hid (HBG.out w1)
  go_wp2_with fail
  refine(HPM.out _).mono ?_
  rintro e w2 ⟨rfl,rfl⟩
  go_wp2_with fail
  refine HBG1.out.mono ?_
  rintro e w3 ⟨wb,sb,b,mb,rs,rb,rfl,hB⟩
  have HB0:=Lib.hid hB
  clear hB
  go_wp2_with fail
  go_loopw [11] (fun i wr=>∃(k:Nat) (σ:StL) (sb rs:Nat),i=.int .i64 (k:Nat)∧k≤l.length∧Hid (BothAt w1 wr wb sb b σ (2*k) mb rs rb σ)∧Hid (Play7 k σ)) (fun i _=>l.length-(intOf i).toNat)
  case atStart=>exact⟨0,startS 132,sb,rs,rfl,Nat.zero_le _,HB0,Lib.hid play7_start⟩
  case round =>
   clear HB0
   obtain⟨k,σ,sb,rs,rfl,hk,HB,HG⟩:=hrel
   by_cases hlt:k<l.length
   ·have hki:(k:Int)<(l.length:Int):=by omega
    have hk0:(0:Int)≤(k:Int):=by omega
    obtain⟨g,off,rfl,hc⟩:=HCE.out (by omega)
    obtain⟨kv,x0,x1,x2,x3,x4,hbs⟩:=hc k hlt
    obtain⟨ka2,kc2,rfl⟩:=hbs.len
    have hqw:=Q1.out.trans HB.out.q
    have Y0:=Lib.hid x0;have Y1:=Lib.hid x1;have Y2:=Lib.hid x2;have Y3:=Lib.hid x3;have Y4:=Lib.hid x4
    obtain⟨x0,x1,x2,x3,x4⟩:=five hqw x0 x1 x2 x3 x4
    have hwk:=HWF.out _ (List.getElem_mem hlt)
    have hkl:=HKEEP.out _ (List.getElem_mem hlt)
    have hst:=HSTP.out w1 wr wb sb b mb rs rb k σ HB.out HG.out (by omega) ka2 kc2 l[k] hwk (hbs.stays Q1.out) (by omega)
    clear hc hbs hqw hwk hkl
    unfold actV at hst
    generalize l[k]=ac at *
    obtain⟨dn,dt,de,σ2,hp2,hreal,hmod⟩:=hst
    have HRE:=Lib.hid hreal;have HMO:=Lib.hid hmod;have HP2:=Lib.hid hp2
    have hn1:(dn != dn)=false:=by simp
    have hn2:(dt != dt)=false:=by simp
    have hn3:(de != de)=false:=by simp
    clear hreal hmod hp2 HB HG
    go_wp2_with fail
    refine HRE.out.mono ?_
    rintro e w4 ⟨rfl,sb2,hB4⟩
    have HB4:=Lib.hid hB4
    obtain⟨x0,x1,x2,x3,x4⟩:=five (Q1.out.trans HB4.out.q) Y0.out Y1.out Y2.out Y3.out Y4.out
    have hmo:=HMO.out w4 sb2 hB4
    have HM4:=Lib.hid hmo
    clear hB4 hmo HRE HMO
    go_wp2_with fail
    refine HM4.out.mono ?_
    rintro e w5 ⟨rfl,rs2,hB5⟩
    have HB5:=Lib.hid hB5
    clear HM4 HB4
    obtain⟨⟨c0,c1⟩,_,m1⟩:=hB5.cells
    have hkn:=HP2.out.know (by omega)
    have hde:=fun (W:World) (q:Q w5 W)=>hB5.dead W q
    have hfr:=fun (W:World) (q:Q w5 W)=>hB5.freeR hkn.num W q
    cases hdd:σ2.dead with
    | true =>
     rw[hdd] at hde
     have HDE:=Lib.hid hde
     clear hde hfr hkn hdd hB5
     go_wp2_with fail
     go_quiet ((go_at_call 10;exact Calls.quiet_of_same ((HDE.out _ (Q.drewN _ _)).mono fun e w' h=>⟨h.1,h.2.symm⟩)))
     go_wp2_with fail
     go_roundw
     case rel=>exact⟨k+1,σ2,sb2,rs2,by go_num,by omega,Lib.hid (HB5.out.keep (Q.drewN _ _)),HP2⟩
     case measure=>simp[intOf];omega
    | false =>
     have hfm:=fun (W:World) (q:Q w5 W)=>hB5.freeM hkn hdd W q
     rw[hdd] at hde
     have HDE:=Lib.hid hde;have HFR:=Lib.hid hfr;have HFM:=Lib.hid hfm
     clear hde hfr hfm hkn hdd hB5
     generalize σ2.free=fe at *
     have hn4:((fe:Int) != (fe:Int))=false:=by simp
     have KK:=Lib.hid (Q.refl w5)
     have c0:=show _∧_∧_ from⟨c0,c1,m1⟩
     go_wp2_with fail
     (go_region_held3 (fun w'=>w'.cell? ⟨wb,0,none⟩=some (ptrV b)∧w'.cell? ⟨wb,1,none⟩=some (ptrV sb2)∧w'.cell? ⟨mb,1,none⟩=some (ptrV rs2))
      (first|exact c0|exact three3 (by repeat (first|with_reducible exact KK.out|with_reducible exact Q.refl _|with_reducible apply Qs.dr|with_reducible apply Qs.al)) c0)
      (first
       | (go_at_call 10;with_reducible refine(HDE.out _ (by repeat (first|with_reducible exact KK.out|with_reducible exact Q.refl _|with_reducible apply Qs.dr|with_reducible apply Qs.al))).mono ?_;rintro e w6x ⟨rfl,rfl⟩)
       | (go_at_call 11;with_reducible refine(HFR.out _ (by repeat (first|with_reducible exact KK.out|with_reducible exact Q.refl _|with_reducible apply Qs.dr|with_reducible apply Qs.al))).mono ?_;rintro e w6 ⟨rfl,q6⟩;have s':Q w5 w6:=Q.trans (by repeat (first|with_reducible exact KK.out|with_reducible exact Q.refl _|with_reducible apply Qs.dr|with_reducible apply Qs.al)) q6;clear KK;have KK:=Lib.hid s';clear s' q6)
       | (go_at_call 12;with_reducible refine(HFM.out _ (by repeat (first|with_reducible exact KK.out|with_reducible exact Q.refl _|with_reducible apply Qs.dr|with_reducible apply Qs.al))).mono ?_;rintro e w7 ⟨rfl,q7⟩;have s':Q w5 w7:=Q.trans (by repeat (first|with_reducible exact KK.out|with_reducible exact Q.refl _|with_reducible apply Qs.dr|with_reducible apply Qs.al)) q7;clear KK;have KK:=Lib.hid s';clear s' q7)))
     all_goals
      go_wp2_with fail
      go_roundw
      case rel=>exact⟨k+1,σ2,sb2,rs2,by go_num,by omega,Lib.hid (HB5.out.keep (by repeat (first|with_reducible exact KK.out|with_reducible exact Q.refl _|with_reducible apply Qs.dr|with_reducible apply Qs.al))),HP2⟩
      case measure=>simp[intOf];omega
   ·have hki:¬(k:Int)<(l.length:Int):=by omega
    obtain rfl:k=l.length:=by omega
    have hB:=HB.out
    have hkn:=HG.out.know (by omega)
    have hmx:=hkn.num.max
    obtain⟨⟨c0,c1⟩,c2,c3⟩:=hB.cells
    obtain⟨lv,c4,htx⟩:=hB.texts
    have hde:=fun (W:World) (q:Q wr W)=>hB.dead W q
    have hdi:=fun (W:World) (q:Q wr W)=>hB.disk hmx W q
    have hln:σ.j.d.l.length≤1000000:=by have h1:σ.n=σ.j.d.l.length:=rfl;omega
    have HDI:=Lib.hid hdi;have TX:=Lib.hid htx;have HLN:=Lib.hid hln
    have hqe:=HB.out.q
    have HQE:=Lib.hid (Q1.out.trans hqe)
    have KK:=Lib.hid (Q.refl wr)
    cases hdd:σ.dead with
    | true =>
     rw[hdd] at hde
     have HDE:=Lib.hid hde
     clear hde hdi hkn hdd hB htx hln HB HG hmx hqe hki hlt hk HCE HWF HKEEP HSTP
     generalize σ.j.d.l=dl at *
     have c5:=show _∧_∧_ from⟨c0,c2,c4⟩
     go_wp2_with fail
     refine(HDE.out _ (Q.refl _)).mono ?_
     rintro e w4 ⟨rfl,rfl⟩
     go_wp2_with fail
     (go_region_held3 (fun w'=>w'.cell? ⟨wb,0,none⟩=some (ptrV b)∧w'.cell? ⟨mb,0,none⟩=some (ptrV rb)∧w'.cell? ⟨rb,0,none⟩=some lv)
      (first|exact c5|exact three3 (by repeat (first|with_reducible exact KK.out|with_reducible exact Q.refl _|with_reducible apply Qs.dr|with_reducible apply Qs.al)) c5)
      (first
       | (go_at_call 14;with_reducible refine(HDI.out _ (by repeat (first|with_reducible exact KK.out|with_reducible exact Q.refl _|with_reducible apply Qs.dr|with_reducible apply Qs.al))).mono ?_;rintro e w6 ⟨v6,rfl,h6,q6⟩;have H6:=Lib.hid h6;have KD:=Lib.hid (Q.refl w6);have s':Q wr w6:=Q.trans (by repeat (first|with_reducible exact KK.out|with_reducible exact Q.refl _|with_reducible apply Qs.dr|with_reducible apply Qs.al)) q6;clear KK;have KK:=Lib.hid s';clear s';clear h6 q6)
       | (go_at_call 13;with_reducible refine(HST.out _ _ _ _ (H6.out.stayQ (by repeat (first|with_reducible exact KD.out|with_reducible exact Q.refl _|with_reducible apply Qs.dr|with_reducible apply Qs.al))) (TX.out.stayQ (by repeat (first|with_reducible exact KK.out|with_reducible exact Q.refl _|with_reducible apply Qs.dr|with_reducible apply Qs.al))) HLN.out).mono ?_;rintro e w7 ⟨rfl,q7⟩;have s':Q wr w7:=Q.trans (by repeat (first|with_reducible exact KK.out|with_reducible exact Q.refl _|with_reducible apply Qs.dr|with_reducible apply Qs.al)) q7;clear KK;have KK:=Lib.hid s';clear s';clear q7)))
     all_goals
      go_wp2_with fail
      go_ret
      exact⟨rfl,HQE.out.trans (by repeat (first|with_reducible exact KK.out|with_reducible exact Q.refl _|with_reducible apply Qs.dr|with_reducible apply Qs.al))⟩
    | false =>
     rw[hdd] at hde
     have hlow:=HG.out.low hdd
     have huw:=fun (W:World) (q:Q wr W)=>hB.usedW hkn.num W q
     have hum:=fun (W:World) (q:Q wr W)=>hB.usedM hkn hdd hlow W q
     have hlu:(usedR σ.map1 (firstD σ.n) σ.n).length≤1000000:=by
      have h1:=firstD_lt σ.n hkn.num.big hmx
      rw[usedR_eq _ _ _ hlow (by omega)]
      have:=usedL_length σ.map1 (firstD σ.n) (σ.n-firstD σ.n)
      omega
     have HDE:=Lib.hid hde;have HUW:=Lib.hid huw;have HUM:=Lib.hid hum;have HLU:=Lib.hid hlu
     clear hde hdi hkn hdd hB htx hln HB HG hmx hqe hki hlt hk HCE HWF HKEEP HSTP huw hum hlu hlow
     generalize σ.j.d.l=dl at *
     generalize usedR σ.map1 (firstD σ.n) σ.n=us at *
     have c5:=show _∧_∧_∧_∧_ from⟨c0,c1,c2,c3,c4⟩
     go_wp2_with fail
     refine(HDE.out _ (Q.refl _)).mono ?_
     rintro e w4 ⟨rfl,rfl⟩
     go_wp2_with fail
     (go_region_held3 (fun w'=>w'.cell? ⟨wb,0,none⟩=some (ptrV b)∧w'.cell? ⟨wb,1,none⟩=some (ptrV sb)∧w'.cell? ⟨mb,0,none⟩=some (ptrV rb)∧w'.cell? ⟨mb,1,none⟩=some (ptrV rs)∧w'.cell? ⟨rb,0,none⟩=some lv)
      (first|exact c5|exact five5 (by repeat (first|with_reducible exact KK.out|with_reducible exact Q.refl _|with_reducible apply Qs.dr|with_reducible apply Qs.al)) c5)
      (first
       | (go_at_call 14;with_reducible refine(HDI.out _ (by repeat (first|with_reducible exact KK.out|with_reducible exact Q.refl _|with_reducible apply Qs.dr|with_reducible apply Qs.al))).mono ?_;rintro e w6 ⟨v6,rfl,h6,q6⟩;have H6:=Lib.hid h6;have KD:=Lib.hid (Q.refl w6);have s':Q wr w6:=Q.trans (by repeat (first|with_reducible exact KK.out|with_reducible exact Q.refl _|with_reducible apply Qs.dr|with_reducible apply Qs.al)) q6;clear KK;have KK:=Lib.hid s';clear s';clear h6 q6)
       | (go_at_call 13;with_reducible refine(HST.out _ _ _ _ (H6.out.stayQ (by repeat (first|with_reducible exact KD.out|with_reducible exact Q.refl _|with_reducible apply Qs.dr|with_reducible apply Qs.al))) (TX.out.stayQ (by repeat (first|with_reducible exact KK.out|with_reducible exact Q.refl _|with_reducible apply Qs.dr|with_reducible apply Qs.al))) HLN.out).mono ?_;rintro e w7 ⟨rfl,q7⟩;have s':Q wr w7:=Q.trans (by repeat (first|with_reducible exact KK.out|with_reducible exact Q.refl _|with_reducible apply Qs.dr|with_reducible apply Qs.al)) q7;clear KK;have KK:=Lib.hid s';clear s';clear q7)
       | (go_at_call 16;with_reducible refine(HUW.out _ (by repeat (first|with_reducible exact KK.out|with_reducible exact Q.refl _|with_reducible apply Qs.dr|with_reducible apply Qs.al))).mono ?_;rintro e w8 ⟨v8,rfl,h8,q8⟩;have H8:=Lib.hid h8;have KU:=Lib.hid (Q.refl w8);(try (have s':Q w9 w8:=Q.trans (by repeat (first|with_reducible exact KV.out|with_reducible exact Q.refl _|with_reducible apply Qs.dr|with_reducible apply Qs.al)) q8;clear KV;have KV:=Lib.hid s';clear s'));have s':Q wr w8:=Q.trans (by repeat (first|with_reducible exact KK.out|with_reducible exact Q.refl _|with_reducible apply Qs.dr|with_reducible apply Qs.al)) q8;clear KK;have KK:=Lib.hid s';clear s';clear h8 q8)
       | (go_at_call 17;with_reducible refine(HUM.out _ (by repeat (first|with_reducible exact KK.out|with_reducible exact Q.refl _|with_reducible apply Qs.dr|with_reducible apply Qs.al))).mono ?_;rintro e w9 ⟨v9,rfl,h9,q9⟩;have H9:=Lib.hid h9;have KV:=Lib.hid (Q.refl w9);(try (have s':Q w8 w9:=Q.trans (by repeat (first|with_reducible exact KU.out|with_reducible exact Q.refl _|with_reducible apply Qs.dr|with_reducible apply Qs.al)) q9;clear KU;have KU:=Lib.hid s';clear s'));have s':Q wr w9:=Q.trans (by repeat (first|with_reducible exact KK.out|with_reducible exact Q.refl _|with_reducible apply Qs.dr|with_reducible apply Qs.al)) q9;clear KK;have KK:=Lib.hid s';clear s';clear h9 q9)
       | (go_at_call 15;with_reducible refine(HSX.out _ _ _ _ (H8.out.stayQ (by repeat (first|with_reducible exact KU.out|with_reducible exact Q.refl _|with_reducible apply Qs.dr|with_reducible apply Qs.al))) (H9.out.stayQ (by repeat (first|with_reducible exact KV.out|with_reducible exact Q.refl _|with_reducible apply Qs.dr|with_reducible apply Qs.al))) HLU.out).mono ?_;rintro e w10 ⟨rfl,q10⟩;have s':Q wr w10:=Q.trans (by repeat (first|with_reducible exact KK.out|with_reducible exact Q.refl _|with_reducible apply Qs.dr|with_reducible apply Qs.al)) q10;clear KK;have KK:=Lib.hid s';clear s';clear q10)))
     all_goals
      go_wp2_with fail
      go_ret
      exact⟨rfl,HQE.out.trans (by repeat (first|with_reducible exact KK.out|with_reducible exact Q.refl _|with_reducible apply Qs.dr|with_reducible apply Qs.al))⟩
end
end Go.Proofs.YthcpkgfieoneeaaGreatDoor
