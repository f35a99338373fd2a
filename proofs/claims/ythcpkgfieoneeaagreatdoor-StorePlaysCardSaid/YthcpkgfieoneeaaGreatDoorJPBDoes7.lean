/- Joined texts of one proof: what is needed of BDoes7, MDoes7, B10, SAt7. -/
import Derived.Test.YthcpkgfieoneeaaGreatDoorJPWld7
import Derived.Test.YthcpkgfieoneeaaGreatDoorJPHlp7
import Derived.Test.YthcpkgfieoneeaaGreatDoorJPPly7
set_option linter.unusedSimpArgs false
set_option linter.unusedVariables false
set_option linter.unnecessarySimpa false
set_option maxRecDepth 100000
set_option maxHeartbeats 16000000
namespace Go.Proofs.YthcpkgfieoneeaaGreatDoor
section
open Go.RowKit
theorem BDoesW_any(M:Nat×Nat×Nat×StL)(w0 w:World)(wb sb b:Nat)(σ:StL)(K:Nat)(h:B7 M w0 w wb sb b σ K)(hn:StNum σ)(hK:K+2≤1000000000000000000)(ka:Option Addr)(kn kc:Nat)(a:Act7)(ha:a.Wf)(most:Int)(hk:a.k=0∨a.k=1):
  Calls Tryz.prog 8 #[ptrV wb,actV (.slice ka kn kc) a,.int .i64 most] w fun e w'=>e=.returned (.tuple #[.int .i64 0,strV [],.int .i64 (σ.write a.at7 a.data).2])∧B7 M w0 w' wb sb b (σ.write a.at7 a.data).1 (K+1):=by
 obtain⟨wa,hwa⟩:∃wa,wa=w.alloc (.cells #[.int .i64 a.op,.int .i64 a.at_,.int .i64 a.n,.slice ka kn kc,.int .u8 (a.byte.toNat:Nat)] 35):=⟨_,rfl⟩
 have qa:Q w wa:=by rw[hwa];exact Q.alloc _ _
 have hbx:Blk wa w.heap.size 35 (actCs ka kn kc a):=by rw[hwa];exact Blk.new w _ _
 obtain⟨F,hlt,hwb,hs,hcl⟩:=h.call qa
 have hbF:¬F w.heap.size:=fun hf=>by have:=hlt _ hf;omega
 have hat:∀W,Calls Tryz.prog 31 #[.agg #[.int .i64 a.op,.int .i64 a.at_,.int .i64 a.n,.slice ka kn kc,.int .u8 (a.byte.toNat:Nat)]] W fun e w'=>e=.returned (.int .i64 a.at7)∧Q W w':=fun W=>At7_any ka kn kc a W ha
 have hda:∀W,Calls Tryz.prog 32 #[.agg #[.int .i64 a.op,.int .i64 a.at_,.int .i64 a.n,.slice ka kn kc,.int .u8 (a.byte.toNat:Nat)]] W fun e w'=>e=.returned (strV a.data)∧Q W w':=fun W=>Data7_any ka kn kc a W ha
 have hdl:=a.data_len
 have hwr:∀W,Q wa W→Calls Tryz.prog 22 #[ptrV sb,.int .i64 a.at7,strV a.data] W fun e w'=>e=.returned (.int .i64 (σ.write a.at7 a.data).2)∧B7 M w0 w' wb sb b (σ.write a.at7 a.data).1 (K+1)∧Turn F wa w':=fun W q=>(SWrite_any W F sb b σ K a.at7 a.data (hs.keep (qa.trans q)) hn (by omega) (by omega)).mono fun e w' h1=>⟨h1.1,hcl W w' _ _ q h1.2.1 h1.2.2⟩
 have hpk:=fun (W:World)=>Pick7_any a.op 11 W ha.op.1 ha.op.2 (by decide) (by decide)
 obtain⟨b0,b1,b2,b3,b4⟩:=hbx.c5
 obtain⟨_,c1⟩:=(h.keep qa).cells
 have HAT:=Lib.hid hat;have HDA:=Lib.hid hda;have HWR:=Lib.hid hwr;have HPK:=Lib.hid hpk
 have HWB:=Lib.hid hwb;have HBF:=Lib.hid hbF
 clear hat hda hwr hpk hwb hbF hcl hlt hs hbx qa h hn hdl
 have hk':pickZ a.op 11=0∨pickZ a.op 11=1:=hk
 generalize (σ.write a.at7 a.data).2=res at *
 generalize a.at7=x at *
 generalize a.data=y at *
 unfold actV
 go_enter Tryz.func8,Tryz.ntmps8
 go_wp2_with fail
 rw[←hwa]
 clear hwa
 refine(HPK.out _).mono ?_
 rintro e w1 ⟨rfl,rfl⟩
 have KK:=Lib.hid (Q.refl wa)
 rcases hk' with hk'|hk'
 all_goals
  rw[hk']
  clear hk' hk
  go_wp2_with fail
  (go_region_held3 (fun w'=>w'.cell? ⟨wb,1,none⟩=some (ptrV sb)∧w'.cell? ⟨w.heap.size,0,none⟩=some (.int .i64 a.op)∧w'.cell? ⟨w.heap.size,1,none⟩=some (.int .i64 a.at_)∧w'.cell? ⟨w.heap.size,2,none⟩=some (.int .i64 a.n)∧w'.cell? ⟨w.heap.size,3,none⟩=some (.slice ka kn kc)∧w'.cell? ⟨w.heap.size,4,none⟩=some (.int .u8 (a.byte.toNat:Nat)))
   (first|exact g0|exact⟨c1,b0,b1,b2,b3,b4⟩|exact seven (by repeat (first|with_reducible exact KK.out|with_reducible exact Q.refl _|with_reducible apply Qs.dr|with_reducible apply Qs.al)) c1 b0 b1 b2 b3 b4)
   (first
    | (go_at_call 31;with_reducible refine(HAT.out _).mono ?_;rintro e w3 ⟨rfl,q3⟩;have s':Q wa w3:=Q.trans (by repeat (first|with_reducible exact KK.out|with_reducible apply Qs.dr|with_reducible apply Qs.al)) q3;clear KK;have KK:=Lib.hid s';clear s' q3)
    | (go_at_call 32;with_reducible refine(HDA.out _).mono ?_;rintro e w3 ⟨rfl,q3⟩;have s':Q wa w3:=Q.trans (by repeat (first|with_reducible exact KK.out|with_reducible apply Qs.dr|with_reducible apply Qs.al)) q3;clear KK;have KK:=Lib.hid s';clear s' q3)
    | (go_at_call 22;with_reducible refine(HWR.out _ (by repeat (first|with_reducible exact KK.out|with_reducible apply Qs.dr|with_reducible apply Qs.al))).mono ?_;rintro e w5 ⟨rfl,h5,t5⟩;have g0:=Turn.seven t5 c1 b0 b1 b2 b3 b4 HWB.out HBF.out HBF.out HBF.out HBF.out HBF.out;have H5:=Lib.hid h5;clear h5 t5)))
  all_goals
   go_wp2_with fail
   go_ret3
   exact⟨rfl,H5.out⟩
theorem BDoesA_any(M:Nat×Nat×Nat×StL)(w0 w:World)(wb sb b:Nat)(σ:StL)(K:Nat)(h:B7 M w0 w wb sb b σ K)(hn:StNum σ)(hK:K+2≤1000000000000000000)(ka:Option Addr)(kn kc:Nat)(a:Act7)(ha:a.Wf)(most:Int)(hk:a.k=2∨a.k=3):
  Calls Tryz.prog 8 #[ptrV wb,actV (.slice ka kn kc) a,.int .i64 most] w fun e w'=>e=.returned (.tuple #[.int .i64 (σ.alloc a.n).2.1,strV [],.int .i64 (σ.alloc a.n).2.2])∧B7 M w0 w' wb sb b (σ.alloc a.n).1 (K+2):=by
 obtain⟨wa,hwa⟩:∃wa,wa=w.alloc (.cells #[.int .i64 a.op,.int .i64 a.at_,.int .i64 a.n,.slice ka kn kc,.int .u8 (a.byte.toNat:Nat)] 35):=⟨_,rfl⟩
 have qa:Q w wa:=by rw[hwa];exact Q.alloc _ _
 have hbx:Blk wa w.heap.size 35 (actCs ka kn kc a):=by rw[hwa];exact Blk.new w _ _
 obtain⟨F,hlt,hwb,hs,hcl⟩:=h.call qa
 have hbF:¬F w.heap.size:=fun hf=>by have:=hlt _ hf;omega
 have hat:∀W,Calls Tryz.prog 31 #[.agg #[.int .i64 a.op,.int .i64 a.at_,.int .i64 a.n,.slice ka kn kc,.int .u8 (a.byte.toNat:Nat)]] W fun e w'=>e=.returned (.int .i64 a.at7)∧Q W w':=fun W=>At7_any ka kn kc a W ha
 have hcc:∀W,Q wa W→Calls Tryz.prog 20 #[ptrV sb,.int .i64 a.n] W fun e w'=>e=.returned (.tuple #[.int .i64 (σ.alloc a.n).2.1,.int .i64 (σ.alloc a.n).2.2])∧B7 M w0 w' wb sb b (σ.alloc a.n).1 (K+2)∧Turn F wa w':=fun W q=>(SAlloc_any W F sb b σ K a.n (hs.keep (qa.trans q)) hn hK).mono fun e w' h1=>⟨h1.1,hcl W w' _ _ q h1.2.1 h1.2.2⟩
 have hpk:=fun (W:World)=>Pick7_any a.op 11 W ha.op.1 ha.op.2 (by decide) (by decide)
 obtain⟨b0,b1,b2,b3,b4⟩:=hbx.c5
 obtain⟨_,c1⟩:=(h.keep qa).cells
 have HAT:=Lib.hid hat;have HCC:=Lib.hid hcc;have HPK:=Lib.hid hpk
 have HWB:=Lib.hid hwb;have HBF:=Lib.hid hbF;have HDONE:=Lib.hid (h.keep qa)
 clear hat hcc hpk hwb hbF hcl hlt hs hbx qa h hn
 have hk':pickZ a.op 11=2∨pickZ a.op 11=3:=hk
 generalize (σ.alloc a.n).2.2=res at *
 generalize (σ.alloc a.n).2.1=res1 at *
 unfold actV
 go_enter Tryz.func8,Tryz.ntmps8
 go_wp2_with fail
 rw[←hwa]
 clear hwa
 refine(HPK.out _).mono ?_
 rintro e w1 ⟨rfl,rfl⟩
 have KK:=Lib.hid (Q.refl wa)
 rcases hk' with hk'|hk'
 all_goals
  rw[hk']
  clear hk' hk
  go_wp2_with fail
  (go_region_held3 (fun w'=>w'.cell? ⟨wb,1,none⟩=some (ptrV sb)∧w'.cell? ⟨w.heap.size,0,none⟩=some (.int .i64 a.op)∧w'.cell? ⟨w.heap.size,1,none⟩=some (.int .i64 a.at_)∧w'.cell? ⟨w.heap.size,2,none⟩=some (.int .i64 a.n)∧w'.cell? ⟨w.heap.size,3,none⟩=some (.slice ka kn kc)∧w'.cell? ⟨w.heap.size,4,none⟩=some (.int .u8 (a.byte.toNat:Nat)))
   (first|exact g0|exact⟨c1,b0,b1,b2,b3,b4⟩|exact seven (by repeat (first|with_reducible exact KK.out|with_reducible exact Q.refl _|with_reducible apply Qs.dr|with_reducible apply Qs.al)) c1 b0 b1 b2 b3 b4)
   (first
    | (go_at_call 31;with_reducible refine(HAT.out _).mono ?_;rintro e w3 ⟨rfl,q3⟩;have s':Q wa w3:=Q.trans (by repeat (first|with_reducible exact KK.out|with_reducible apply Qs.dr|with_reducible apply Qs.al)) q3;clear KK;have KK:=Lib.hid s';clear s' q3)
    | (go_at_call 20;with_reducible refine(HCC.out _ (by repeat (first|with_reducible exact KK.out|with_reducible apply Qs.dr|with_reducible apply Qs.al))).mono ?_;rintro e w5 ⟨rfl,h5,t5⟩;have g0:=Turn.seven t5 c1 b0 b1 b2 b3 b4 HWB.out HBF.out HBF.out HBF.out HBF.out HBF.out;have H5:=Lib.hid h5;clear h5 t5)))
  all_goals
   go_wp2_with fail
   go_ret3
   exact⟨rfl,H5.out⟩
theorem BDoesR_any(M:Nat×Nat×Nat×StL)(w0 w:World)(wb sb b:Nat)(σ:StL)(K:Nat)(h:B7 M w0 w wb sb b σ K)(hn:StNum σ)(hK:K+2≤1000000000000000000)(ka:Option Addr)(kn kc:Nat)(a:Act7)(ha:a.Wf)(most:Int)(hk:a.k=4):
  Calls Tryz.prog 8 #[ptrV wb,actV (.slice ka kn kc) a,.int .i64 most] w fun e w'=>e=.returned (.tuple #[.int .i64 0,strV [],.int .i64 (σ.release a.at7 a.n).2])∧B7 M w0 w' wb sb b (σ.release a.at7 a.n).1 (K+2):=by
 obtain⟨wa,hwa⟩:∃wa,wa=w.alloc (.cells #[.int .i64 a.op,.int .i64 a.at_,.int .i64 a.n,.slice ka kn kc,.int .u8 (a.byte.toNat:Nat)] 35):=⟨_,rfl⟩
 have qa:Q w wa:=by rw[hwa];exact Q.alloc _ _
 have hbx:Blk wa w.heap.size 35 (actCs ka kn kc a):=by rw[hwa];exact Blk.new w _ _
 obtain⟨F,hlt,hwb,hs,hcl⟩:=h.call qa
 have hbF:¬F w.heap.size:=fun hf=>by have:=hlt _ hf;omega
 have hat:∀W,Calls Tryz.prog 31 #[.agg #[.int .i64 a.op,.int .i64 a.at_,.int .i64 a.n,.slice ka kn kc,.int .u8 (a.byte.toNat:Nat)]] W fun e w'=>e=.returned (.int .i64 a.at7)∧Q W w':=fun W=>At7_any ka kn kc a W ha
 have hcc:∀W,Q wa W→Calls Tryz.prog 25 #[ptrV sb,.int .i64 a.at7,.int .i64 a.n] W fun e w'=>e=.returned (.int .i64 (σ.release a.at7 a.n).2)∧B7 M w0 w' wb sb b (σ.release a.at7 a.n).1 (K+2)∧Turn F wa w':=fun W q=>(SRelease_any W F sb b σ K a.at7 a.n (hs.keep (qa.trans q)) hn hK).mono fun e w' h1=>⟨h1.1,hcl W w' _ _ q h1.2.1 h1.2.2⟩
 have hpk:=fun (W:World)=>Pick7_any a.op 11 W ha.op.1 ha.op.2 (by decide) (by decide)
 obtain⟨b0,b1,b2,b3,b4⟩:=hbx.c5
 obtain⟨_,c1⟩:=(h.keep qa).cells
 have HAT:=Lib.hid hat;have HCC:=Lib.hid hcc;have HPK:=Lib.hid hpk
 have HWB:=Lib.hid hwb;have HBF:=Lib.hid hbF;have HDONE:=Lib.hid (h.keep qa)
 clear hat hcc hpk hwb hbF hcl hlt hs hbx qa h hn
 have hk':pickZ a.op 11=4:=hk
 generalize (σ.release a.at7 a.n).2=res at *
 generalize a.at7=x at *
 unfold actV
 go_enter Tryz.func8,Tryz.ntmps8
 go_wp2_with fail
 rw[←hwa]
 clear hwa
 refine(HPK.out _).mono ?_
 rintro e w1 ⟨rfl,rfl⟩
 have KK:=Lib.hid (Q.refl wa)
 skip
 all_goals
  rw[hk']
  clear hk' hk
  go_wp2_with fail
  (go_region_held3 (fun w'=>w'.cell? ⟨wb,1,none⟩=some (ptrV sb)∧w'.cell? ⟨w.heap.size,0,none⟩=some (.int .i64 a.op)∧w'.cell? ⟨w.heap.size,1,none⟩=some (.int .i64 a.at_)∧w'.cell? ⟨w.heap.size,2,none⟩=some (.int .i64 a.n)∧w'.cell? ⟨w.heap.size,3,none⟩=some (.slice ka kn kc)∧w'.cell? ⟨w.heap.size,4,none⟩=some (.int .u8 (a.byte.toNat:Nat)))
   (first|exact g0|exact⟨c1,b0,b1,b2,b3,b4⟩|exact seven (by repeat (first|with_reducible exact KK.out|with_reducible exact Q.refl _|with_reducible apply Qs.dr|with_reducible apply Qs.al)) c1 b0 b1 b2 b3 b4)
   (first
    | (go_at_call 31;with_reducible refine(HAT.out _).mono ?_;rintro e w3 ⟨rfl,q3⟩;have s':Q wa w3:=Q.trans (by repeat (first|with_reducible exact KK.out|with_reducible apply Qs.dr|with_reducible apply Qs.al)) q3;clear KK;have KK:=Lib.hid s';clear s' q3)
    | (go_at_call 25;with_reducible refine(HCC.out _ (by repeat (first|with_reducible exact KK.out|with_reducible apply Qs.dr|with_reducible apply Qs.al))).mono ?_;rintro e w5 ⟨rfl,h5,t5⟩;have g0:=Turn.seven t5 c1 b0 b1 b2 b3 b4 HWB.out HBF.out HBF.out HBF.out HBF.out HBF.out;have H5:=Lib.hid h5;clear h5 t5)))
  all_goals
   go_wp2_with fail
   go_ret3
   exact⟨rfl,H5.out⟩
theorem BDoesB_any(M:Nat×Nat×Nat×StL)(w0 w:World)(wb sb b:Nat)(σ:StL)(K:Nat)(h:B7 M w0 w wb sb b σ K)(hn:StNum σ)(hK:K+2≤1000000000000000000)(ka:Option Addr)(kn kc:Nat)(a:Act7)(ha:a.Wf)(most:Int)(hk:a.k=5):
  Calls Tryz.prog 8 #[ptrV wb,actV (.slice ka kn kc) a,.int .i64 most] w fun e w'=>e=.returned (.tuple #[.int .i64 0,strV [],.int .i64 σ.begin.2])∧B7 M w0 w' wb sb b σ.begin.1 (K):=by
 obtain⟨wa,hwa⟩:∃wa,wa=w.alloc (.cells #[.int .i64 a.op,.int .i64 a.at_,.int .i64 a.n,.slice ka kn kc,.int .u8 (a.byte.toNat:Nat)] 35):=⟨_,rfl⟩
 have qa:Q w wa:=by rw[hwa];exact Q.alloc _ _
 have hbx:Blk wa w.heap.size 35 (actCs ka kn kc a):=by rw[hwa];exact Blk.new w _ _
 obtain⟨F,hlt,hwb,hs,hcl⟩:=h.call qa
 have hbF:¬F w.heap.size:=fun hf=>by have:=hlt _ hf;omega
 have hat:∀W,Calls Tryz.prog 31 #[.agg #[.int .i64 a.op,.int .i64 a.at_,.int .i64 a.n,.slice ka kn kc,.int .u8 (a.byte.toNat:Nat)]] W fun e w'=>e=.returned (.int .i64 a.at7)∧Q W w':=fun W=>At7_any ka kn kc a W ha
 have hcc:∀W,Q wa W→Calls Tryz.prog 21 #[ptrV sb] W fun e w'=>e=.returned (.int .i64 σ.begin.2)∧B7 M w0 w' wb sb b σ.begin.1 (K)∧Turn F wa w':=fun W q=>(SBegin_any W F sb b σ K (hs.keep (qa.trans q))).mono fun e w' h1=>⟨h1.1,hcl W w' _ _ q h1.2.1 h1.2.2⟩
 have hpk:=fun (W:World)=>Pick7_any a.op 11 W ha.op.1 ha.op.2 (by decide) (by decide)
 obtain⟨b0,b1,b2,b3,b4⟩:=hbx.c5
 obtain⟨_,c1⟩:=(h.keep qa).cells
 have HAT:=Lib.hid hat;have HCC:=Lib.hid hcc;have HPK:=Lib.hid hpk
 have HWB:=Lib.hid hwb;have HBF:=Lib.hid hbF;have HDONE:=Lib.hid (h.keep qa)
 clear hat hcc hpk hwb hbF hcl hlt hs hbx qa h hn
 have hk':pickZ a.op 11=5:=hk
 generalize σ.begin.2=res at *
 unfold actV
 go_enter Tryz.func8,Tryz.ntmps8
 go_wp2_with fail
 rw[←hwa]
 clear hwa
 refine(HPK.out _).mono ?_
 rintro e w1 ⟨rfl,rfl⟩
 have KK:=Lib.hid (Q.refl wa)
 skip
 all_goals
  rw[hk']
  clear hk' hk
  go_wp2_with fail
  refine(HCC.out _ KK.out).mono ?_
  rintro e w5 ⟨rfl,h5,t5⟩
  have H5:=Lib.hid h5
  clear h5 t5
  go_wp2_with fail
  go_ret3
  exact⟨rfl,H5.out⟩
theorem BDoesC_any(M:Nat×Nat×Nat×StL)(w0 w:World)(wb sb b:Nat)(σ:StL)(K:Nat)(h:B7 M w0 w wb sb b σ K)(hn:StNum σ)(hp:σ.state true=0→σ.tx≠[]→ComPre σ)(hK:K+2≤1000000000000000000)(ka:Option Addr)(kn kc:Nat)(a:Act7)(ha:a.Wf)(most:Int)(hk:a.k=6):
  Calls Tryz.prog 8 #[ptrV wb,actV (.slice ka kn kc) a,.int .i64 most] w fun e w'=>e=.returned (.tuple #[.int .i64 0,strV [],.int .i64 σ.commit.2])∧B7 M w0 w' wb sb b σ.commit.1 (K):=by
 obtain⟨wa,hwa⟩:∃wa,wa=w.alloc (.cells #[.int .i64 a.op,.int .i64 a.at_,.int .i64 a.n,.slice ka kn kc,.int .u8 (a.byte.toNat:Nat)] 35):=⟨_,rfl⟩
 have qa:Q w wa:=by rw[hwa];exact Q.alloc _ _
 have hbx:Blk wa w.heap.size 35 (actCs ka kn kc a):=by rw[hwa];exact Blk.new w _ _
 obtain⟨F,hlt,hwb,hs,hcl⟩:=h.call qa
 have hbF:¬F w.heap.size:=fun hf=>by have:=hlt _ hf;omega
 have hat:∀W,Calls Tryz.prog 31 #[.agg #[.int .i64 a.op,.int .i64 a.at_,.int .i64 a.n,.slice ka kn kc,.int .u8 (a.byte.toNat:Nat)]] W fun e w'=>e=.returned (.int .i64 a.at7)∧Q W w':=fun W=>At7_any ka kn kc a W ha
 have hcc:∀W,Q wa W→Calls Tryz.prog 24 #[ptrV sb] W fun e w'=>e=.returned (.int .i64 σ.commit.2)∧B7 M w0 w' wb sb b σ.commit.1 (K)∧Turn F wa w':=fun W q=>(SCommit_any W F sb b σ K (hs.keep (qa.trans q)) hn hp).mono fun e w' h1=>⟨h1.1,hcl W w' _ _ q h1.2.1 h1.2.2⟩
 have hpk:=fun (W:World)=>Pick7_any a.op 11 W ha.op.1 ha.op.2 (by decide) (by decide)
 obtain⟨b0,b1,b2,b3,b4⟩:=hbx.c5
 obtain⟨_,c1⟩:=(h.keep qa).cells
 have HAT:=Lib.hid hat;have HCC:=Lib.hid hcc;have HPK:=Lib.hid hpk
 have HWB:=Lib.hid hwb;have HBF:=Lib.hid hbF;have HDONE:=Lib.hid (h.keep qa)
 clear hat hcc hpk hwb hbF hcl hlt hs hbx qa h hn hp
 have hk':pickZ a.op 11=6:=hk
 generalize σ.commit.2=res at *
 unfold actV
 go_enter Tryz.func8,Tryz.ntmps8
 go_wp2_with fail
 rw[←hwa]
 clear hwa
 refine(HPK.out _).mono ?_
 rintro e w1 ⟨rfl,rfl⟩
 have KK:=Lib.hid (Q.refl wa)
 skip
 all_goals
  rw[hk']
  clear hk' hk
  go_wp2_with fail
  refine(HCC.out _ KK.out).mono ?_
  rintro e w5 ⟨rfl,h5,t5⟩
  have H5:=Lib.hid h5
  clear h5 t5
  go_wp2_with fail
  go_ret3
  exact⟨rfl,H5.out⟩
theorem BDoesX_any(M:Nat×Nat×Nat×StL)(w0 w:World)(wb sb b:Nat)(σ:StL)(K:Nat)(h:B7 M w0 w wb sb b σ K)(hn:StNum σ)(hK:K+2≤1000000000000000000)(ka:Option Addr)(kn kc:Nat)(a:Act7)(ha:a.Wf)(most:Int)(hk:a.k=7):
  Calls Tryz.prog 8 #[ptrV wb,actV (.slice ka kn kc) a,.int .i64 most] w fun e w'=>e=.returned (.tuple #[.int .i64 0,strV [],.int .i64 0])∧B7 M w0 w' wb sb b σ.abort (K):=by
 obtain⟨wa,hwa⟩:∃wa,wa=w.alloc (.cells #[.int .i64 a.op,.int .i64 a.at_,.int .i64 a.n,.slice ka kn kc,.int .u8 (a.byte.toNat:Nat)] 35):=⟨_,rfl⟩
 have qa:Q w wa:=by rw[hwa];exact Q.alloc _ _
 have hbx:Blk wa w.heap.size 35 (actCs ka kn kc a):=by rw[hwa];exact Blk.new w _ _
 obtain⟨F,hlt,hwb,hs,hcl⟩:=h.call qa
 have hbF:¬F w.heap.size:=fun hf=>by have:=hlt _ hf;omega
 have hat:∀W,Calls Tryz.prog 31 #[.agg #[.int .i64 a.op,.int .i64 a.at_,.int .i64 a.n,.slice ka kn kc,.int .u8 (a.byte.toNat:Nat)]] W fun e w'=>e=.returned (.int .i64 a.at7)∧Q W w':=fun W=>At7_any ka kn kc a W ha
 have hcc:∀W,Q wa W→Calls Tryz.prog 26 #[ptrV sb] W fun e w'=>e=.returned (.tuple #[])∧B7 M w0 w' wb sb b σ.abort (K)∧Turn F wa w':=fun W q=>(SAbort_any W F sb b σ K (hs.keep (qa.trans q))).mono fun e w' h1=>⟨h1.1,hcl W w' _ _ q (h1.2.1.mono (fun k hk=>.inl hk) (fun k hk=>hk.elim (h1.2.1.lt k) (fun hk=>hk.2)) (Nat.le_refl _)) h1.2.2⟩
 have hpk:=fun (W:World)=>Pick7_any a.op 11 W ha.op.1 ha.op.2 (by decide) (by decide)
 obtain⟨b0,b1,b2,b3,b4⟩:=hbx.c5
 obtain⟨_,c1⟩:=(h.keep qa).cells
 have HAT:=Lib.hid hat;have HCC:=Lib.hid hcc;have HPK:=Lib.hid hpk
 have HWB:=Lib.hid hwb;have HBF:=Lib.hid hbF;have HDONE:=Lib.hid (h.keep qa)
 clear hat hcc hpk hwb hbF hcl hlt hs hbx qa h hn
 have hk':pickZ a.op 11=7:=hk
 unfold actV
 go_enter Tryz.func8,Tryz.ntmps8
 go_wp2_with fail
 rw[←hwa]
 clear hwa
 refine(HPK.out _).mono ?_
 rintro e w1 ⟨rfl,rfl⟩
 have KK:=Lib.hid (Q.refl wa)
 skip
 all_goals
  rw[hk']
  clear hk' hk
  go_wp2_with fail
  refine(HCC.out _ KK.out).mono ?_
  rintro e w5 ⟨rfl,h5,t5⟩
  have H5:=Lib.hid h5
  clear h5 t5
  go_wp2_with fail
  go_ret3
  exact⟨rfl,H5.out⟩
theorem BDoesT_any(M:Nat×Nat×Nat×StL)(w0 w:World)(wb sb b:Nat)(σ:StL)(K:Nat)(h:B7 M w0 w wb sb b σ K)(hn:StNum σ)(hK:K+2≤1000000000000000000)(ka:Option Addr)(kn kc:Nat)(a:Act7)(ha:a.Wf)(most:Int)(hk:a.k=8):
  Calls Tryz.prog 8 #[ptrV wb,actV (.slice ka kn kc) a,.int .i64 most] w fun e w'=>e=.returned (.tuple #[.int .i64 0,strV (σ.read a.at7).1,.int .i64 (σ.read a.at7).2])∧B7 M w0 w' wb sb b σ (K+1):=by
 obtain⟨wa,hwa⟩:∃wa,wa=w.alloc (.cells #[.int .i64 a.op,.int .i64 a.at_,.int .i64 a.n,.slice ka kn kc,.int .u8 (a.byte.toNat:Nat)] 35):=⟨_,rfl⟩
 have qa:Q w wa:=by rw[hwa];exact Q.alloc _ _
 have hbx:Blk wa w.heap.size 35 (actCs ka kn kc a):=by rw[hwa];exact Blk.new w _ _
 obtain⟨F,hlt,hwb,hs,hcl⟩:=h.call qa
 have hbF:¬F w.heap.size:=fun hf=>by have:=hlt _ hf;omega
 have hat:∀W,Calls Tryz.prog 31 #[.agg #[.int .i64 a.op,.int .i64 a.at_,.int .i64 a.n,.slice ka kn kc,.int .u8 (a.byte.toNat:Nat)]] W fun e w'=>e=.returned (.int .i64 a.at7)∧Q W w':=fun W=>At7_any ka kn kc a W ha
 have hcc:∀W,Q wa W→Calls Tryz.prog 27 #[ptrV sb,.int .i64 a.at7] W fun e w'=>e=.returned (.tuple #[strV (σ.read a.at7).1,.int .i64 (σ.read a.at7).2])∧B7 M w0 w' wb sb b σ (K+1)∧Turn F wa w':=fun W q=>(SRead_any W F sb b σ K a.at7 (hs.keep (qa.trans q)) hn (by omega)).mono fun e w' h1=>⟨h1.1,hcl W w' _ _ q h1.2.1 h1.2.2⟩
 have hpk:=fun (W:World)=>Pick7_any a.op 11 W ha.op.1 ha.op.2 (by decide) (by decide)
 obtain⟨b0,b1,b2,b3,b4⟩:=hbx.c5
 obtain⟨_,c1⟩:=(h.keep qa).cells
 have HAT:=Lib.hid hat;have HCC:=Lib.hid hcc;have HPK:=Lib.hid hpk
 have HWB:=Lib.hid hwb;have HBF:=Lib.hid hbF;have HDONE:=Lib.hid (h.keep qa)
 clear hat hcc hpk hwb hbF hcl hlt hs hbx qa h hn
 have hk':pickZ a.op 11=8:=hk
 generalize (σ.read a.at7).1=res at *
 generalize (σ.read a.at7).2=res1 at *
 generalize a.at7=x at *
 unfold actV
 go_enter Tryz.func8,Tryz.ntmps8
 go_wp2_with fail
 rw[←hwa]
 clear hwa
 refine(HPK.out _).mono ?_
 rintro e w1 ⟨rfl,rfl⟩
 have KK:=Lib.hid (Q.refl wa)
 skip
 all_goals
  rw[hk']
  clear hk' hk
  go_wp2_with fail
  (go_region_held3 (fun w'=>w'.cell? ⟨wb,1,none⟩=some (ptrV sb)∧w'.cell? ⟨w.heap.size,0,none⟩=some (.int .i64 a.op)∧w'.cell? ⟨w.heap.size,1,none⟩=some (.int .i64 a.at_)∧w'.cell? ⟨w.heap.size,2,none⟩=some (.int .i64 a.n)∧w'.cell? ⟨w.heap.size,3,none⟩=some (.slice ka kn kc)∧w'.cell? ⟨w.heap.size,4,none⟩=some (.int .u8 (a.byte.toNat:Nat)))
   (first|exact g0|exact⟨c1,b0,b1,b2,b3,b4⟩|exact seven (by repeat (first|with_reducible exact KK.out|with_reducible exact Q.refl _|with_reducible apply Qs.dr|with_reducible apply Qs.al)) c1 b0 b1 b2 b3 b4)
   (first
    | (go_at_call 31;with_reducible refine(HAT.out _).mono ?_;rintro e w3 ⟨rfl,q3⟩;have s':Q wa w3:=Q.trans (by repeat (first|with_reducible exact KK.out|with_reducible apply Qs.dr|with_reducible apply Qs.al)) q3;clear KK;have KK:=Lib.hid s';clear s' q3)
    | (go_at_call 27;with_reducible refine(HCC.out _ (by repeat (first|with_reducible exact KK.out|with_reducible apply Qs.dr|with_reducible apply Qs.al))).mono ?_;rintro e w5 ⟨rfl,h5,t5⟩;have g0:=Turn.seven t5 c1 b0 b1 b2 b3 b4 HWB.out HBF.out HBF.out HBF.out HBF.out HBF.out;have H5:=Lib.hid h5;clear h5 t5)))
  all_goals
   go_wp2_with fail
   go_ret3
   exact⟨rfl,H5.out⟩
theorem BDoes7_any(M:Nat×Nat×Nat×StL)(w0 w:World)(wb sb b:Nat)(σ:StL)(K:Nat)(h:B7 M w0 w wb sb b σ K)(hn:StNum σ)(hp:σ.state true=0→σ.tx≠[]→ComPre σ)(hK:K+2≤1000000000000000000)(ka:Option Addr)(kn kc:Nat)(a:Act7)(ha:a.Wf)(most:Int)(hk:a.k<9):
  Calls Tryz.prog 8 #[ptrV wb,actV (.slice ka kn kc) a,.int .i64 most] w fun e w'=>e=.returned (.tuple #[.int .i64 (doesN a σ),strV (doesT a σ),.int .i64 (doesE a σ)])∧B7 M w0 w' wb sb b (doesS a σ) (K+2):=by
 unfold doesN doesT doesE doesS
 rcases (by omega:a.k≤1∨(2≤a.k∧a.k≤3)∨a.k=4∨a.k=5∨a.k=6∨a.k=7∨a.k=8) with h1|h1|h1|h1|h1|h1|h1
 ·rw[if_neg (by omega),if_neg (by omega),if_pos h1,if_pos h1]
  exact(BDoesW_any M w0 w wb sb b σ K h hn hK ka kn kc a ha most (by omega)).mono fun e w' h=>⟨h.1,h.2.mono (by omega)⟩
 ·rw[if_pos h1,if_neg (by omega),if_neg (by omega),if_pos h1.2,if_neg (by omega),if_pos h1.2]
  exact(BDoesA_any M w0 w wb sb b σ K h hn hK ka kn kc a ha most (by omega)).mono fun e w' h=>⟨h.1,h.2.mono (by omega)⟩
 ·simp only[h1,show ¬(4≤1) by decide,show ¬(4≤3) by decide,show ¬(4=8) by decide,and_false,if_false,if_true]
  exact(BDoesR_any M w0 w wb sb b σ K h hn hK ka kn kc a ha most h1).mono fun e w' h=>⟨h.1,h.2.mono (by omega)⟩
 ·simp only[h1,show ¬(5≤1) by decide,show ¬(5≤3) by decide,show ¬(5=8) by decide,show ¬(5=4) by decide,and_false,if_false,if_true]
  exact(BDoesB_any M w0 w wb sb b σ K h hn hK ka kn kc a ha most h1).mono fun e w' h=>⟨h.1,h.2.mono (by omega)⟩
 ·simp only[h1,show ¬(6≤1) by decide,show ¬(6≤3) by decide,show ¬(6=8) by decide,show ¬(6=4) by decide,show ¬(6=5) by decide,and_false,if_false,if_true]
  exact(BDoesC_any M w0 w wb sb b σ K h hn hp hK ka kn kc a ha most h1).mono fun e w' h=>⟨h.1,h.2.mono (by omega)⟩
 ·simp only[h1,show ¬(7≤1) by decide,show ¬(7≤3) by decide,show ¬(7=8) by decide,show ¬(7=4) by decide,show ¬(7=5) by decide,show ¬(7=6) by decide,and_false,if_false,if_true]
  exact(BDoesX_any M w0 w wb sb b σ K h hn hK ka kn kc a ha most h1).mono fun e w' h=>⟨h.1,h.2.mono (by omega)⟩
 ·simp only[h1,show ¬(8≤1) by decide,show ¬(8≤3) by decide,show ¬(8=4) by decide,show ¬(8=5) by decide,show ¬(8=6) by decide,show ¬(8=7) by decide,and_false,if_false,if_true]
  exact(BDoesT_any M w0 w wb sb b σ K h hn hK ka kn kc a ha most h1).mono fun e w' h=>⟨h.1,h.2.mono (by omega)⟩
theorem at7_bounds{a:Act7}(ha:a.Wf): -9223372036854775808≤a.at7∧a.at7≤9223372036854775807:=by
 unfold Act7.at7
 split
 ·exact ha.at_
 ·have:=pickZ_lt a.at_ 72 (by decide)
  omega
theorem abort_ends{w:World}{F:Nat→Prop}{sb b:Nat}{σ:StL}(ht:σ.open_=false→σ.tx=[])(h:RStAt w F sb b σ.close):RStAt w F sb b σ.abort:=by
 unfold StL.abort
 cases ho:σ.open_ with
 | true=>exact h.ends _ rfl rfl rfl
 | false=>rw[if_neg (by decide)];exact h.ends σ ho (ht ho) rfl
theorem MDoesW_any(N:Nat×Nat×Nat×StL×Nat)(w0 w:World)(wb sb b:Nat)(σ:StL)(h:M7 N w0 w wb sb b σ)(hk7:RKnow σ)(ka:Option Addr)(kn kc:Nat)(a:Act7)(ha:a.Wf)(hk:a.k=0∨a.k=1):
  Calls Tryz.prog 9 #[ptrV wb,actV (.slice ka kn kc) a] w fun e w'=>e=.returned (.tuple #[.int .i64 0,strV [],.int .i64 (σ.write a.at7 a.data).2])∧M7 N w0 w' wb sb b (σ.write a.at7 a.data).1:=by
 obtain⟨wa,hwa⟩:∃wa,wa=w.alloc (.cells #[.int .i64 a.op,.int .i64 a.at_,.int .i64 a.n,.slice ka kn kc,.int .u8 (a.byte.toNat:Nat)] 35):=⟨_,rfl⟩
 have qa:Q w wa:=by rw[hwa];exact Q.alloc _ _
 have hbx:Blk wa w.heap.size 35 (actCs ka kn kc a):=by rw[hwa];exact Blk.new w _ _
 obtain⟨F,hlt,hwb,hs,hcl⟩:=h.call qa
 have hbF:¬F w.heap.size:=fun hf=>by have:=hlt _ hf;omega
 have hat:∀W,Calls Tryz.prog 31 #[.agg #[.int .i64 a.op,.int .i64 a.at_,.int .i64 a.n,.slice ka kn kc,.int .u8 (a.byte.toNat:Nat)]] W fun e w'=>e=.returned (.int .i64 a.at7)∧Q W w':=fun W=>At7_any ka kn kc a W ha
 have hda:∀W,Calls Tryz.prog 32 #[.agg #[.int .i64 a.op,.int .i64 a.at_,.int .i64 a.n,.slice ka kn kc,.int .u8 (a.byte.toNat:Nat)]] W fun e w'=>e=.returned (strV a.data)∧Q W w':=fun W=>Data7_any ka kn kc a W ha
 have hdl:=a.data_len
 have hwr:∀W,Q wa W→Calls Tryz.prog 36 #[ptrV sb,.int .i64 a.at7,strV a.data] W fun e w'=>e=.returned (.int .i64 (σ.write a.at7 a.data).2)∧M7 N w0 w' wb sb b (σ.write a.at7 a.data).1∧Turn F wa w':=fun W q=>(RWrite7_any (hs.keep (qa.trans q)) hk7 a.at7 a.data (by omega)).mono fun e w' h1=>⟨h1.1,hcl W w' _ q h1.2.1 h1.2.2⟩
 have hpk:=fun (W:World)=>Pick7_any a.op 11 W ha.op.1 ha.op.2 (by decide) (by decide)
 obtain⟨b0,b1,b2,b3,b4⟩:=hbx.c5
 obtain⟨_,c1⟩:=(h.keep qa).cells
 have HAT:=Lib.hid hat;have HDA:=Lib.hid hda;have HWR:=Lib.hid hwr;have HPK:=Lib.hid hpk
 have HWB:=Lib.hid hwb;have HBF:=Lib.hid hbF
 clear hat hda hwr hpk hwb hbF hcl hlt hs hbx qa h hdl
 have hk':pickZ a.op 11=0∨pickZ a.op 11=1:=hk
 generalize (σ.write a.at7 a.data).2=res at *
 generalize a.at7=x at *
 generalize a.data=y at *
 unfold actV
 go_enter Tryz.func9,Tryz.ntmps9
 go_wp2_with fail
 rw[←hwa]
 clear hwa
 refine(HPK.out _).mono ?_
 rintro e w1 ⟨rfl,rfl⟩
 have KK:=Lib.hid (Q.refl wa)
 rcases hk' with hk'|hk'
 all_goals
  rw[hk']
  clear hk' hk
  go_wp2_with fail
  (go_region_held3 (fun w'=>w'.cell? ⟨wb,1,none⟩=some (ptrV sb)∧w'.cell? ⟨w.heap.size,0,none⟩=some (.int .i64 a.op)∧w'.cell? ⟨w.heap.size,1,none⟩=some (.int .i64 a.at_)∧w'.cell? ⟨w.heap.size,2,none⟩=some (.int .i64 a.n)∧w'.cell? ⟨w.heap.size,3,none⟩=some (.slice ka kn kc)∧w'.cell? ⟨w.heap.size,4,none⟩=some (.int .u8 (a.byte.toNat:Nat)))
   (first|exact g0|exact⟨c1,b0,b1,b2,b3,b4⟩|exact seven (by repeat (first|with_reducible exact KK.out|with_reducible exact Q.refl _|with_reducible apply Qs.dr|with_reducible apply Qs.al)) c1 b0 b1 b2 b3 b4)
   (first
    | (go_at_call 31;with_reducible refine(HAT.out _).mono ?_;rintro e w3 ⟨rfl,q3⟩;have s':Q wa w3:=Q.trans (by repeat (first|with_reducible exact KK.out|with_reducible apply Qs.dr|with_reducible apply Qs.al)) q3;clear KK;have KK:=Lib.hid s';clear s' q3)
    | (go_at_call 32;with_reducible refine(HDA.out _).mono ?_;rintro e w3 ⟨rfl,q3⟩;have s':Q wa w3:=Q.trans (by repeat (first|with_reducible exact KK.out|with_reducible apply Qs.dr|with_reducible apply Qs.al)) q3;clear KK;have KK:=Lib.hid s';clear s' q3)
    | (go_at_call 36;with_reducible refine(HWR.out _ (by repeat (first|with_reducible exact KK.out|with_reducible apply Qs.dr|with_reducible apply Qs.al))).mono ?_;rintro e w5 ⟨rfl,h5,t5⟩;have g0:=Turn.seven t5 c1 b0 b1 b2 b3 b4 HWB.out HBF.out HBF.out HBF.out HBF.out HBF.out;have H5:=Lib.hid h5;clear h5 t5)))
  all_goals
   go_wp2_with fail
   go_ret3
   exact⟨rfl,H5.out⟩
theorem MDoesA_any(N:Nat×Nat×Nat×StL×Nat)(w0 w:World)(wb sb b:Nat)(σ:StL)(h:M7 N w0 w wb sb b σ)(hk7:RKnow σ)(ka:Option Addr)(kn kc:Nat)(a:Act7)(ha:a.Wf)(hk:a.k=2∨a.k=3):
  Calls Tryz.prog 9 #[ptrV wb,actV (.slice ka kn kc) a] w fun e w'=>e=.returned (.tuple #[.int .i64 (σ.alloc a.n).2.1,strV [],.int .i64 (σ.alloc a.n).2.2])∧M7 N w0 w' wb sb b (σ.alloc a.n).1:=by
 obtain⟨wa,hwa⟩:∃wa,wa=w.alloc (.cells #[.int .i64 a.op,.int .i64 a.at_,.int .i64 a.n,.slice ka kn kc,.int .u8 (a.byte.toNat:Nat)] 35):=⟨_,rfl⟩
 have qa:Q w wa:=by rw[hwa];exact Q.alloc _ _
 have hbx:Blk wa w.heap.size 35 (actCs ka kn kc a):=by rw[hwa];exact Blk.new w _ _
 obtain⟨F,hlt,hwb,hs,hcl⟩:=h.call qa
 have hbF:¬F w.heap.size:=fun hf=>by have:=hlt _ hf;omega
 have hat:∀W,Calls Tryz.prog 31 #[.agg #[.int .i64 a.op,.int .i64 a.at_,.int .i64 a.n,.slice ka kn kc,.int .u8 (a.byte.toNat:Nat)]] W fun e w'=>e=.returned (.int .i64 a.at7)∧Q W w':=fun W=>At7_any ka kn kc a W ha
 have hcc:∀W,Q wa W→Calls Tryz.prog 37 #[ptrV sb,.int .i64 a.n] W fun e w'=>e=.returned (.tuple #[.int .i64 (σ.alloc a.n).2.1,.int .i64 (σ.alloc a.n).2.2])∧M7 N w0 w' wb sb b (σ.alloc a.n).1∧Turn F wa w':=fun W q=>(RAlloc7_any (hs.keep (qa.trans q)) hk7 a.n ha.n.1 ha.n.2).mono fun e w' h1=>⟨h1.1,hcl W w' _ q h1.2.1 h1.2.2⟩
 have hpk:=fun (W:World)=>Pick7_any a.op 11 W ha.op.1 ha.op.2 (by decide) (by decide)
 obtain⟨b0,b1,b2,b3,b4⟩:=hbx.c5
 obtain⟨_,c1⟩:=(h.keep qa).cells
 have HAT:=Lib.hid hat;have HCC:=Lib.hid hcc;have HPK:=Lib.hid hpk
 have HWB:=Lib.hid hwb;have HBF:=Lib.hid hbF;have HDONE:=Lib.hid (h.keep qa)
 clear hat hcc hpk hwb hbF hcl hlt hs hbx qa h
 have hk':pickZ a.op 11=2∨pickZ a.op 11=3:=hk
 generalize (σ.alloc a.n).2.2=res at *
 generalize (σ.alloc a.n).2.1=res1 at *
 unfold actV
 go_enter Tryz.func9,Tryz.ntmps9
 go_wp2_with fail
 rw[←hwa]
 clear hwa
 refine(HPK.out _).mono ?_
 rintro e w1 ⟨rfl,rfl⟩
 have KK:=Lib.hid (Q.refl wa)
 rcases hk' with hk'|hk'
 all_goals
  rw[hk']
  clear hk' hk
  go_wp2_with fail
  (go_region_held3 (fun w'=>w'.cell? ⟨wb,1,none⟩=some (ptrV sb)∧w'.cell? ⟨w.heap.size,0,none⟩=some (.int .i64 a.op)∧w'.cell? ⟨w.heap.size,1,none⟩=some (.int .i64 a.at_)∧w'.cell? ⟨w.heap.size,2,none⟩=some (.int .i64 a.n)∧w'.cell? ⟨w.heap.size,3,none⟩=some (.slice ka kn kc)∧w'.cell? ⟨w.heap.size,4,none⟩=some (.int .u8 (a.byte.toNat:Nat)))
   (first|exact g0|exact⟨c1,b0,b1,b2,b3,b4⟩|exact seven (by repeat (first|with_reducible exact KK.out|with_reducible exact Q.refl _|with_reducible apply Qs.dr|with_reducible apply Qs.al)) c1 b0 b1 b2 b3 b4)
   (first
    | (go_at_call 31;with_reducible refine(HAT.out _).mono ?_;rintro e w3 ⟨rfl,q3⟩;have s':Q wa w3:=Q.trans (by repeat (first|with_reducible exact KK.out|with_reducible apply Qs.dr|with_reducible apply Qs.al)) q3;clear KK;have KK:=Lib.hid s';clear s' q3)
    | (go_at_call 37;with_reducible refine(HCC.out _ (by repeat (first|with_reducible exact KK.out|with_reducible apply Qs.dr|with_reducible apply Qs.al))).mono ?_;rintro e w5 ⟨rfl,h5,t5⟩;have g0:=Turn.seven t5 c1 b0 b1 b2 b3 b4 HWB.out HBF.out HBF.out HBF.out HBF.out HBF.out;have H5:=Lib.hid h5;clear h5 t5)))
  all_goals
   go_wp2_with fail
   go_ret3
   exact⟨rfl,H5.out⟩
theorem MDoesR_any(N:Nat×Nat×Nat×StL×Nat)(w0 w:World)(wb sb b:Nat)(σ:StL)(h:M7 N w0 w wb sb b σ)(hk7:RKnow σ)(ka:Option Addr)(kn kc:Nat)(a:Act7)(ha:a.Wf)(hk:a.k=4):
  Calls Tryz.prog 9 #[ptrV wb,actV (.slice ka kn kc) a] w fun e w'=>e=.returned (.tuple #[.int .i64 0,strV [],.int .i64 (σ.release a.at7 a.n).2])∧M7 N w0 w' wb sb b (σ.release a.at7 a.n).1:=by
 obtain⟨wa,hwa⟩:∃wa,wa=w.alloc (.cells #[.int .i64 a.op,.int .i64 a.at_,.int .i64 a.n,.slice ka kn kc,.int .u8 (a.byte.toNat:Nat)] 35):=⟨_,rfl⟩
 have qa:Q w wa:=by rw[hwa];exact Q.alloc _ _
 have hbx:Blk wa w.heap.size 35 (actCs ka kn kc a):=by rw[hwa];exact Blk.new w _ _
 obtain⟨F,hlt,hwb,hs,hcl⟩:=h.call qa
 have hbF:¬F w.heap.size:=fun hf=>by have:=hlt _ hf;omega
 have hat:∀W,Calls Tryz.prog 31 #[.agg #[.int .i64 a.op,.int .i64 a.at_,.int .i64 a.n,.slice ka kn kc,.int .u8 (a.byte.toNat:Nat)]] W fun e w'=>e=.returned (.int .i64 a.at7)∧Q W w':=fun W=>At7_any ka kn kc a W ha
 have hcc:∀W,Q wa W→Calls Tryz.prog 38 #[ptrV sb,.int .i64 a.at7,.int .i64 a.n] W fun e w'=>e=.returned (.int .i64 (σ.release a.at7 a.n).2)∧M7 N w0 w' wb sb b (σ.release a.at7 a.n).1∧Turn F wa w':=fun W q=>(RRelease7_any (hs.keep (qa.trans q)) hk7 a.at7 a.n (at7_bounds ha).1 (at7_bounds ha).2 ha.n.1 ha.n.2).mono fun e w' h1=>⟨h1.1,hcl W w' _ q h1.2.1 h1.2.2⟩
 have hpk:=fun (W:World)=>Pick7_any a.op 11 W ha.op.1 ha.op.2 (by decide) (by decide)
 obtain⟨b0,b1,b2,b3,b4⟩:=hbx.c5
 obtain⟨_,c1⟩:=(h.keep qa).cells
 have HAT:=Lib.hid hat;have HCC:=Lib.hid hcc;have HPK:=Lib.hid hpk
 have HWB:=Lib.hid hwb;have HBF:=Lib.hid hbF;have HDONE:=Lib.hid (h.keep qa)
 clear hat hcc hpk hwb hbF hcl hlt hs hbx qa h
 have hk':pickZ a.op 11=4:=hk
 generalize (σ.release a.at7 a.n).2=res at *
 generalize a.at7=x at *
 unfold actV
 go_enter Tryz.func9,Tryz.ntmps9
 go_wp2_with fail
 rw[←hwa]
 clear hwa
 refine(HPK.out _).mono ?_
 rintro e w1 ⟨rfl,rfl⟩
 have KK:=Lib.hid (Q.refl wa)
 skip
 all_goals
  rw[hk']
  clear hk' hk
  go_wp2_with fail
  (go_region_held3 (fun w'=>w'.cell? ⟨wb,1,none⟩=some (ptrV sb)∧w'.cell? ⟨w.heap.size,0,none⟩=some (.int .i64 a.op)∧w'.cell? ⟨w.heap.size,1,none⟩=some (.int .i64 a.at_)∧w'.cell? ⟨w.heap.size,2,none⟩=some (.int .i64 a.n)∧w'.cell? ⟨w.heap.size,3,none⟩=some (.slice ka kn kc)∧w'.cell? ⟨w.heap.size,4,none⟩=some (.int .u8 (a.byte.toNat:Nat)))
   (first|exact g0|exact⟨c1,b0,b1,b2,b3,b4⟩|exact seven (by repeat (first|with_reducible exact KK.out|with_reducible exact Q.refl _|with_reducible apply Qs.dr|with_reducible apply Qs.al)) c1 b0 b1 b2 b3 b4)
   (first
    | (go_at_call 31;with_reducible refine(HAT.out _).mono ?_;rintro e w3 ⟨rfl,q3⟩;have s':Q wa w3:=Q.trans (by repeat (first|with_reducible exact KK.out|with_reducible apply Qs.dr|with_reducible apply Qs.al)) q3;clear KK;have KK:=Lib.hid s';clear s' q3)
    | (go_at_call 38;with_reducible refine(HCC.out _ (by repeat (first|with_reducible exact KK.out|with_reducible apply Qs.dr|with_reducible apply Qs.al))).mono ?_;rintro e w5 ⟨rfl,h5,t5⟩;have g0:=Turn.seven t5 c1 b0 b1 b2 b3 b4 HWB.out HBF.out HBF.out HBF.out HBF.out HBF.out;have H5:=Lib.hid h5;clear h5 t5)))
  all_goals
   go_wp2_with fail
   go_ret3
   exact⟨rfl,H5.out⟩
theorem MDoesB_any(N:Nat×Nat×Nat×StL×Nat)(w0 w:World)(wb sb b:Nat)(σ:StL)(h:M7 N w0 w wb sb b σ)(hk7:RKnow σ)(ka:Option Addr)(kn kc:Nat)(a:Act7)(ha:a.Wf)(hk:a.k=5):
  Calls Tryz.prog 9 #[ptrV wb,actV (.slice ka kn kc) a] w fun e w'=>e=.returned (.tuple #[.int .i64 0,strV [],.int .i64 σ.begin.2])∧M7 N w0 w' wb sb b σ.begin.1:=by
 obtain⟨wa,hwa⟩:∃wa,wa=w.alloc (.cells #[.int .i64 a.op,.int .i64 a.at_,.int .i64 a.n,.slice ka kn kc,.int .u8 (a.byte.toNat:Nat)] 35):=⟨_,rfl⟩
 have qa:Q w wa:=by rw[hwa];exact Q.alloc _ _
 have hbx:Blk wa w.heap.size 35 (actCs ka kn kc a):=by rw[hwa];exact Blk.new w _ _
 obtain⟨F,hlt,hwb,hs,hcl⟩:=h.call qa
 have hbF:¬F w.heap.size:=fun hf=>by have:=hlt _ hf;omega
 have hat:∀W,Calls Tryz.prog 31 #[.agg #[.int .i64 a.op,.int .i64 a.at_,.int .i64 a.n,.slice ka kn kc,.int .u8 (a.byte.toNat:Nat)]] W fun e w'=>e=.returned (.int .i64 a.at7)∧Q W w':=fun W=>At7_any ka kn kc a W ha
 have hcc:∀W,Q wa W→Calls Tryz.prog 39 #[ptrV sb] W fun e w'=>e=.returned (.int .i64 σ.begin.2)∧M7 N w0 w' wb sb b σ.begin.1∧Turn F wa w':=fun W q=>(RBeginA_any (hs.keep (qa.trans q))).mono fun e w' h1=>⟨h1.1,hcl W w' _ q h1.2.1 h1.2.2⟩
 have hpk:=fun (W:World)=>Pick7_any a.op 11 W ha.op.1 ha.op.2 (by decide) (by decide)
 obtain⟨b0,b1,b2,b3,b4⟩:=hbx.c5
 obtain⟨_,c1⟩:=(h.keep qa).cells
 have HAT:=Lib.hid hat;have HCC:=Lib.hid hcc;have HPK:=Lib.hid hpk
 have HWB:=Lib.hid hwb;have HBF:=Lib.hid hbF;have HDONE:=Lib.hid (h.keep qa)
 clear hat hcc hpk hwb hbF hcl hlt hs hbx qa h
 have hk':pickZ a.op 11=5:=hk
 generalize σ.begin.2=res at *
 unfold actV
 go_enter Tryz.func9,Tryz.ntmps9
 go_wp2_with fail
 rw[←hwa]
 clear hwa
 refine(HPK.out _).mono ?_
 rintro e w1 ⟨rfl,rfl⟩
 have KK:=Lib.hid (Q.refl wa)
 skip
 all_goals
  rw[hk']
  clear hk' hk
  go_wp2_with fail
  refine(HCC.out _ KK.out).mono ?_
  rintro e w5 ⟨rfl,h5,t5⟩
  have H5:=Lib.hid h5
  clear h5 t5
  go_wp2_with fail
  go_ret3
  exact⟨rfl,H5.out⟩
theorem MDoesC_any(N:Nat×Nat×Nat×StL×Nat)(w0 w:World)(wb sb b:Nat)(σ:StL)(h:M7 N w0 w wb sb b σ)(hk7:RKnow σ)(ka:Option Addr)(kn kc:Nat)(a:Act7)(ha:a.Wf)(hk:a.k=6):
  Calls Tryz.prog 9 #[ptrV wb,actV (.slice ka kn kc) a] w fun e w'=>e=.returned (.tuple #[.int .i64 0,strV [],.int .i64 σ.commit.2])∧M7 N w0 w' wb sb b σ.commit.1:=by
 obtain⟨wa,hwa⟩:∃wa,wa=w.alloc (.cells #[.int .i64 a.op,.int .i64 a.at_,.int .i64 a.n,.slice ka kn kc,.int .u8 (a.byte.toNat:Nat)] 35):=⟨_,rfl⟩
 have qa:Q w wa:=by rw[hwa];exact Q.alloc _ _
 have hbx:Blk wa w.heap.size 35 (actCs ka kn kc a):=by rw[hwa];exact Blk.new w _ _
 obtain⟨F,hlt,hwb,hs,hcl⟩:=h.call qa
 have hbF:¬F w.heap.size:=fun hf=>by have:=hlt _ hf;omega
 have hat:∀W,Calls Tryz.prog 31 #[.agg #[.int .i64 a.op,.int .i64 a.at_,.int .i64 a.n,.slice ka kn kc,.int .u8 (a.byte.toNat:Nat)]] W fun e w'=>e=.returned (.int .i64 a.at7)∧Q W w':=fun W=>At7_any ka kn kc a W ha
 have hcc:∀W,Q wa W→Calls Tryz.prog 40 #[ptrV sb] W fun e w'=>e=.returned (.int .i64 σ.commit.2)∧M7 N w0 w' wb sb b σ.commit.1∧Turn F wa w':=fun W q=>(RCommit7_any (hs.keep (qa.trans q)) hk7).mono fun e w' h1=>⟨h1.1,hcl W w' _ q h1.2.1 h1.2.2⟩
 have hpk:=fun (W:World)=>Pick7_any a.op 11 W ha.op.1 ha.op.2 (by decide) (by decide)
 obtain⟨b0,b1,b2,b3,b4⟩:=hbx.c5
 obtain⟨_,c1⟩:=(h.keep qa).cells
 have HAT:=Lib.hid hat;have HCC:=Lib.hid hcc;have HPK:=Lib.hid hpk
 have HWB:=Lib.hid hwb;have HBF:=Lib.hid hbF;have HDONE:=Lib.hid (h.keep qa)
 clear hat hcc hpk hwb hbF hcl hlt hs hbx qa h
 have hk':pickZ a.op 11=6:=hk
 generalize σ.commit.2=res at *
 unfold actV
 go_enter Tryz.func9,Tryz.ntmps9
 go_wp2_with fail
 rw[←hwa]
 clear hwa
 refine(HPK.out _).mono ?_
 rintro e w1 ⟨rfl,rfl⟩
 have KK:=Lib.hid (Q.refl wa)
 skip
 all_goals
  rw[hk']
  clear hk' hk
  go_wp2_with fail
  refine(HCC.out _ KK.out).mono ?_
  rintro e w5 ⟨rfl,h5,t5⟩
  have H5:=Lib.hid h5
  clear h5 t5
  go_wp2_with fail
  go_ret3
  exact⟨rfl,H5.out⟩
theorem MDoesX_any(N:Nat×Nat×Nat×StL×Nat)(w0 w:World)(wb sb b:Nat)(σ:StL)(h:M7 N w0 w wb sb b σ)(hk7:RKnow σ)(ht:σ.open_=false→σ.tx=[])(ka:Option Addr)(kn kc:Nat)(a:Act7)(ha:a.Wf)(hk:a.k=7):
  Calls Tryz.prog 9 #[ptrV wb,actV (.slice ka kn kc) a] w fun e w'=>e=.returned (.tuple #[.int .i64 0,strV [],.int .i64 0])∧M7 N w0 w' wb sb b σ.abort:=by
 obtain⟨wa,hwa⟩:∃wa,wa=w.alloc (.cells #[.int .i64 a.op,.int .i64 a.at_,.int .i64 a.n,.slice ka kn kc,.int .u8 (a.byte.toNat:Nat)] 35):=⟨_,rfl⟩
 have qa:Q w wa:=by rw[hwa];exact Q.alloc _ _
 have hbx:Blk wa w.heap.size 35 (actCs ka kn kc a):=by rw[hwa];exact Blk.new w _ _
 obtain⟨F,hlt,hwb,hs,hcl⟩:=h.call qa
 have hbF:¬F w.heap.size:=fun hf=>by have:=hlt _ hf;omega
 have hat:∀W,Calls Tryz.prog 31 #[.agg #[.int .i64 a.op,.int .i64 a.at_,.int .i64 a.n,.slice ka kn kc,.int .u8 (a.byte.toNat:Nat)]] W fun e w'=>e=.returned (.int .i64 a.at7)∧Q W w':=fun W=>At7_any ka kn kc a W ha
 have hcc:∀W,Q wa W→Calls Tryz.prog 41 #[ptrV sb] W fun e w'=>e=.returned (.tuple #[])∧M7 N w0 w' wb sb b σ.abort∧Turn F wa w':=fun W q=>(RAbortA_any (hs.keep (qa.trans q))).mono fun e w' h1=>⟨h1.1,hcl W w' _ q (abort_ends ht h1.2.1) h1.2.2⟩
 have hpk:=fun (W:World)=>Pick7_any a.op 11 W ha.op.1 ha.op.2 (by decide) (by decide)
 obtain⟨b0,b1,b2,b3,b4⟩:=hbx.c5
 obtain⟨_,c1⟩:=(h.keep qa).cells
 have HAT:=Lib.hid hat;have HCC:=Lib.hid hcc;have HPK:=Lib.hid hpk
 have HWB:=Lib.hid hwb;have HBF:=Lib.hid hbF;have HDONE:=Lib.hid (h.keep qa)
 clear hat hcc hpk hwb hbF hcl hlt hs hbx qa h
 have hk':pickZ a.op 11=7:=hk
 unfold actV
 go_enter Tryz.func9,Tryz.ntmps9
 go_wp2_with fail
 rw[←hwa]
 clear hwa
 refine(HPK.out _).mono ?_
 rintro e w1 ⟨rfl,rfl⟩
 have KK:=Lib.hid (Q.refl wa)
 skip
 all_goals
  rw[hk']
  clear hk' hk
  go_wp2_with fail
  refine(HCC.out _ KK.out).mono ?_
  rintro e w5 ⟨rfl,h5,t5⟩
  have H5:=Lib.hid h5
  clear h5 t5
  go_wp2_with fail
  go_ret3
  exact⟨rfl,H5.out⟩
theorem MDoesT_any(N:Nat×Nat×Nat×StL×Nat)(w0 w:World)(wb sb b:Nat)(σ:StL)(h:M7 N w0 w wb sb b σ)(hk7:RKnow σ)(ka:Option Addr)(kn kc:Nat)(a:Act7)(ha:a.Wf)(hk:a.k=8):
  Calls Tryz.prog 9 #[ptrV wb,actV (.slice ka kn kc) a] w fun e w'=>e=.returned (.tuple #[.int .i64 0,strV (σ.read a.at7).1,.int .i64 (σ.read a.at7).2])∧M7 N w0 w' wb sb b σ:=by
 obtain⟨wa,hwa⟩:∃wa,wa=w.alloc (.cells #[.int .i64 a.op,.int .i64 a.at_,.int .i64 a.n,.slice ka kn kc,.int .u8 (a.byte.toNat:Nat)] 35):=⟨_,rfl⟩
 have qa:Q w wa:=by rw[hwa];exact Q.alloc _ _
 have hbx:Blk wa w.heap.size 35 (actCs ka kn kc a):=by rw[hwa];exact Blk.new w _ _
 obtain⟨F,hlt,hwb,hs,hcl⟩:=h.call qa
 have hbF:¬F w.heap.size:=fun hf=>by have:=hlt _ hf;omega
 have hat:∀W,Calls Tryz.prog 31 #[.agg #[.int .i64 a.op,.int .i64 a.at_,.int .i64 a.n,.slice ka kn kc,.int .u8 (a.byte.toNat:Nat)]] W fun e w'=>e=.returned (.int .i64 a.at7)∧Q W w':=fun W=>At7_any ka kn kc a W ha
 have hcc:∀W,Q wa W→Calls Tryz.prog 42 #[ptrV sb,.int .i64 a.at7] W fun e w'=>e=.returned (.tuple #[strV (σ.read a.at7).1,.int .i64 (σ.read a.at7).2])∧M7 N w0 w' wb sb b σ∧Turn F wa w':=fun W q=>(RReadA_any (hs.keep (qa.trans q)) hk7 a.at7).mono fun e w' h1=>⟨h1.1,hcl W w' _ q h1.2.1 h1.2.2⟩
 have hpk:=fun (W:World)=>Pick7_any a.op 11 W ha.op.1 ha.op.2 (by decide) (by decide)
 obtain⟨b0,b1,b2,b3,b4⟩:=hbx.c5
 obtain⟨_,c1⟩:=(h.keep qa).cells
 have HAT:=Lib.hid hat;have HCC:=Lib.hid hcc;have HPK:=Lib.hid hpk
 have HWB:=Lib.hid hwb;have HBF:=Lib.hid hbF;have HDONE:=Lib.hid (h.keep qa)
 clear hat hcc hpk hwb hbF hcl hlt hs hbx qa h
 have hk':pickZ a.op 11=8:=hk
 generalize (σ.read a.at7).1=res at *
 generalize (σ.read a.at7).2=res1 at *
 generalize a.at7=x at *
 unfold actV
 go_enter Tryz.func9,Tryz.ntmps9
 go_wp2_with fail
 rw[←hwa]
 clear hwa
 refine(HPK.out _).mono ?_
 rintro e w1 ⟨rfl,rfl⟩
 have KK:=Lib.hid (Q.refl wa)
 skip
 all_goals
  rw[hk']
  clear hk' hk
  go_wp2_with fail
  (go_region_held3 (fun w'=>w'.cell? ⟨wb,1,none⟩=some (ptrV sb)∧w'.cell? ⟨w.heap.size,0,none⟩=some (.int .i64 a.op)∧w'.cell? ⟨w.heap.size,1,none⟩=some (.int .i64 a.at_)∧w'.cell? ⟨w.heap.size,2,none⟩=some (.int .i64 a.n)∧w'.cell? ⟨w.heap.size,3,none⟩=some (.slice ka kn kc)∧w'.cell? ⟨w.heap.size,4,none⟩=some (.int .u8 (a.byte.toNat:Nat)))
   (first|exact g0|exact⟨c1,b0,b1,b2,b3,b4⟩|exact seven (by repeat (first|with_reducible exact KK.out|with_reducible exact Q.refl _|with_reducible apply Qs.dr|with_reducible apply Qs.al)) c1 b0 b1 b2 b3 b4)
   (first
    | (go_at_call 31;with_reducible refine(HAT.out _).mono ?_;rintro e w3 ⟨rfl,q3⟩;have s':Q wa w3:=Q.trans (by repeat (first|with_reducible exact KK.out|with_reducible apply Qs.dr|with_reducible apply Qs.al)) q3;clear KK;have KK:=Lib.hid s';clear s' q3)
    | (go_at_call 42;with_reducible refine(HCC.out _ (by repeat (first|with_reducible exact KK.out|with_reducible apply Qs.dr|with_reducible apply Qs.al))).mono ?_;rintro e w5 ⟨rfl,h5,t5⟩;have g0:=Turn.seven t5 c1 b0 b1 b2 b3 b4 HWB.out HBF.out HBF.out HBF.out HBF.out HBF.out;have H5:=Lib.hid h5;clear h5 t5)))
  all_goals
   go_wp2_with fail
   go_ret3
   exact⟨rfl,H5.out⟩
theorem MDoes7_any(N:Nat×Nat×Nat×StL×Nat)(w0 w:World)(wb sb b:Nat)(σ:StL)(h:M7 N w0 w wb sb b σ)(hk7:RKnow σ)(ht:σ.open_=false→σ.tx=[])(ka:Option Addr)(kn kc:Nat)(a:Act7)(ha:a.Wf)(hk:a.k<9):
  Calls Tryz.prog 9 #[ptrV wb,actV (.slice ka kn kc) a] w fun e w'=>e=.returned (.tuple #[.int .i64 (doesN a σ),strV (doesT a σ),.int .i64 (doesE a σ)])∧M7 N w0 w' wb sb b (doesS a σ):=by
 unfold doesN doesT doesE doesS
 rcases (by omega:a.k≤1∨(2≤a.k∧a.k≤3)∨a.k=4∨a.k=5∨a.k=6∨a.k=7∨a.k=8) with h1|h1|h1|h1|h1|h1|h1
 ·rw[if_neg (by omega),if_neg (by omega),if_pos h1,if_pos h1]
  exact(MDoesW_any N w0 w wb sb b σ h hk7 ka kn kc a ha (by omega)).mono fun e w' h=>⟨h.1,h.2⟩
 ·rw[if_pos h1,if_neg (by omega),if_neg (by omega),if_pos h1.2,if_neg (by omega),if_pos h1.2]
  exact(MDoesA_any N w0 w wb sb b σ h hk7 ka kn kc a ha (by omega)).mono fun e w' h=>⟨h.1,h.2⟩
 ·simp only[h1,show ¬(4≤1) by decide,show ¬(4≤3) by decide,show ¬(4=8) by decide,and_false,if_false,if_true]
  exact(MDoesR_any N w0 w wb sb b σ h hk7 ka kn kc a ha h1).mono fun e w' h=>⟨h.1,h.2⟩
 ·simp only[h1,show ¬(5≤1) by decide,show ¬(5≤3) by decide,show ¬(5=8) by decide,show ¬(5=4) by decide,and_false,if_false,if_true]
  exact(MDoesB_any N w0 w wb sb b σ h hk7 ka kn kc a ha h1).mono fun e w' h=>⟨h.1,h.2⟩
 ·simp only[h1,show ¬(6≤1) by decide,show ¬(6≤3) by decide,show ¬(6=8) by decide,show ¬(6=4) by decide,show ¬(6=5) by decide,and_false,if_false,if_true]
  exact(MDoesC_any N w0 w wb sb b σ h hk7 ka kn kc a ha h1).mono fun e w' h=>⟨h.1,h.2⟩
 ·simp only[h1,show ¬(7≤1) by decide,show ¬(7≤3) by decide,show ¬(7=8) by decide,show ¬(7=4) by decide,show ¬(7=5) by decide,show ¬(7=6) by decide,and_false,if_false,if_true]
  exact(MDoesX_any N w0 w wb sb b σ h hk7 ht ka kn kc a ha h1).mono fun e w' h=>⟨h.1,h.2⟩
 ·simp only[h1,show ¬(8≤1) by decide,show ¬(8≤3) by decide,show ¬(8=4) by decide,show ¬(8=5) by decide,show ¬(8=6) by decide,show ¬(8=7) by decide,and_false,if_false,if_true]
  exact(MDoesT_any N w0 w wb sb b σ h hk7 ka kn kc a ha h1).mono fun e w' h=>⟨h.1,h.2⟩
end
section
open Go.RowKit
section
variable {w:World} {F:Nat→Prop} {sb b:Nat} {σ:StL}
theorem RStAt.fuseA(h:RStAt w F sb b σ)(n:Int):
  Calls Tryz.prog 43 #[ptrV b,.int .i64 n] w fun e w'=>e=.returned (.tuple #[])∧RStAt w' (grow F w w') sb b (σ.fuse n)∧Turn F w w':=by
 obtain⟨FJ,p,tv,h1,h2,h3,h4⟩:=h
 refine(RFuse_any w (fun k=>FJ k∧k≠p) b _ n (h1.jr.dev.minus h1.jr.box)).mono ?_
 rintro e w' ⟨rfl,hd,t,hz⟩
 obtain⟨hj,tj⟩:=RJrnAt.step h1.jr.box (Q.refl w) t (hd.mono (fun k hk=>.inl hk)) h1.jr.lt h1.jr.fp
 have hsb:=h1.box.lt
 refine⟨rfl,⟨grow FJ w w',p,tv,⟨tj.blk h1.box h1.sF,hj,fun hg=>hg.elim h1.sF (fun hg=>by omega),h1.tx.keep tj⟩,fun k hk=>?_,fun g off n cap e hn=>.inl (h3 g off n cap e hn),fun k hk=>hk.elim (fun hk=>by have:=h4 k hk;omega) (fun hk=>hk.2)⟩,tj.mono (fun k hk=>h2 k (.inl hk))⟩
 rcases hk with (hk|hk)|hk
 ·exact .inl (h2 k (.inl hk))
 ·exact .inr hk
 ·exact .inl (h2 k (.inr hk))
theorem StAt.fuseA{K:Nat}(h:StAt w F sb b σ K)(n:Int):
  Calls Tryz.prog 33 #[ptrV b,.int .i64 n] w fun e w'=>e=.returned (.tuple #[])∧StAt w' (grow F w w') sb b (σ.fuse n) K∧Turn F w w':=by
 obtain⟨G,hG,_⟩:=h.dev
 refine(Fuse_set w G b _ n hG).mono ?_
 rintro e w' ⟨rfl,rfl⟩
 obtain⟨h1,t,hfb⟩:=h.fuse (max n (-1))
 exact⟨rfl,h1.mono (fun k hk=>.inl hk) (fun k hk=>hk.elim (fun hk=>Nat.lt_of_lt_of_le (h.lt k hk) t.size) (fun hk=>hk.2)) (Nat.le_refl _),t.mono (fun k e=>by rw[e];exact hfb)⟩
end
theorem pair2{w w':World}(q:Q w w'){a0 a1:Addr}{v0 v1:Value}(h:w.cell? a0=some v0∧w.cell? a1=some v1):w'.cell? a0=some v0∧w'.cell? a1=some v1:=⟨cell_stays q h.1,cell_stays q h.2⟩
theorem four4{w w':World}(q:Q w w'){a0 a1 a2 a3:Addr}{v0 v1 v2 v3:Value}(h:w.cell? a0=some v0∧w.cell? a1=some v1∧w.cell? a2=some v2∧w.cell? a3=some v3):
  w'.cell? a0=some v0∧w'.cell? a1=some v1∧w'.cell? a2=some v2∧w'.cell? a3=some v3:=⟨cell_stays q h.1,cell_stays q h.2.1,cell_stays q h.2.2.1,cell_stays q h.2.2.2⟩
theorem Turn.pair2{F:Nat→Prop}{w w':World}(t:Turn F w w'){a0 a1:Addr}{v0 v1:Value}(h:w.cell? a0=some v0∧w.cell? a1=some v1)(n0:¬F a0.block)(n1:¬F a1.block):w'.cell? a0=some v0∧w'.cell? a1=some v1:=⟨t.cell h.1 n0,t.cell h.2 n1⟩
theorem Turn.four4{F:Nat→Prop}{w w':World}(t:Turn F w w'){k0 k1:Nat}{i0 i1 i2 i3:Nat}{v0 v1 v2 v3:Value}(h:w.cell? ⟨k0,i0,none⟩=some v0∧w.cell? ⟨k1,i1,none⟩=some v1∧w.cell? ⟨k1,i2,none⟩=some v2∧w.cell? ⟨k1,i3,none⟩=some v3)(n0:¬F k0)(n1:¬F k1):
  w'.cell? ⟨k0,i0,none⟩=some v0∧w'.cell? ⟨k1,i1,none⟩=some v1∧w'.cell? ⟨k1,i2,none⟩=some v2∧w'.cell? ⟨k1,i3,none⟩=some v3:=⟨t.cell h.1 n0,t.cell h.2.1 n1,t.cell h.2.2.1 n1,t.cell h.2.2.2 n1⟩
theorem BDoesF_any(M:Nat×Nat×Nat×StL)(w0 w:World)(wb sb b:Nat)(σ:StL)(K:Nat)(h:B7 M w0 w wb sb b σ K)(ka:Option Addr)(kn kc:Nat)(a:Act7)(ha:a.Wf)(most:Int)(hk:a.k=9):
  Calls Tryz.prog 8 #[ptrV wb,actV (.slice ka kn kc) a,.int .i64 most] w fun e w'=>e=.returned (.tuple #[.int .i64 0,strV [],.int .i64 0])∧B7 M w0 w' wb sb b (σ.fuse (pickZ a.n 200:Nat)) K:=by
 obtain⟨wa,hwa⟩:∃wa,wa=w.alloc (.cells #[.int .i64 a.op,.int .i64 a.at_,.int .i64 a.n,.slice ka kn kc,.int .u8 (a.byte.toNat:Nat)] 35):=⟨_,rfl⟩
 have qa:Q w wa:=by rw[hwa];exact Q.alloc _ _
 have hbx:Blk wa w.heap.size 35 (actCs ka kn kc a):=by rw[hwa];exact Blk.new w _ _
 obtain⟨F,hlt,hwb,hs,hcl⟩:=h.call qa
 have hbF:¬F w.heap.size:=fun hf=>by have:=hlt _ hf;omega
 have hfu:∀W,Q wa W→Calls Tryz.prog 33 #[ptrV b,.int .i64 (pickZ a.n 200:Nat)] W fun e w'=>e=.returned (.tuple #[])∧B7 M w0 w' wb sb b (σ.fuse (pickZ a.n 200:Nat)) K∧Turn F wa w':=fun W q=>((hs.keep (qa.trans q)).fuseA _).mono fun e w' h1=>⟨h1.1,hcl W w' _ _ q h1.2.1 h1.2.2⟩
 have hpk:=fun (W:World)=>Pick7_any a.op 11 W ha.op.1 ha.op.2 (by decide) (by decide)
 have hpn:∀W,Calls Tryz.prog 6 #[.int .i64 a.n,.int .i64 200] W fun e w'=>e=.returned (.int .i64 (pickZ a.n 200:Nat))∧W=w':=fun W=>Pick7_any a.n 200 W ha.n.1 ha.n.2 (by decide) (by decide)
 obtain⟨b0,_,b2,_,_⟩:=hbx.c5
 obtain⟨c1,_⟩:=(h.keep qa).cells
 have HFU:=Lib.hid hfu;have HPK:=Lib.hid hpk;have HPN:=Lib.hid hpn
 have HWB:=Lib.hid hwb;have HBF:=Lib.hid hbF
 clear hfu hpk hpn hwb hbF hcl hlt hs hbx qa h
 have hk':pickZ a.op 11=9:=hk
 generalize pickZ a.n 200=pn at *
 unfold actV
 go_enter Tryz.func8,Tryz.ntmps8
 go_wp2_with fail
 rw[←hwa]
 clear hwa
 refine(HPK.out _).mono ?_
 rintro e w1 ⟨rfl,rfl⟩
 have KK:=Lib.hid (Q.refl wa)
 rw[hk']
 clear hk' hk
 have c0:=show _∧_ from⟨c1,b2⟩
 go_wp2_with fail
 (go_region_held3 (fun w'=>w'.cell? ⟨wb,0,none⟩=some (ptrV b)∧w'.cell? ⟨w.heap.size,2,none⟩=some (.int .i64 a.n))
  (first|exact g0|exact c0|exact pair2 (by repeat (first|with_reducible exact KK.out|with_reducible exact Q.refl _|with_reducible apply Qs.dr|with_reducible apply Qs.al)) c0)
  (first
   | (go_at_call 6;with_reducible refine(HPN.out _).mono ?_;rintro e w3x ⟨rfl,rfl⟩)
   | (go_at_call 33;with_reducible refine(HFU.out _ (by repeat (first|with_reducible exact KK.out|with_reducible exact Q.refl _|with_reducible apply Qs.dr|with_reducible apply Qs.al))).mono ?_;rintro e w5 ⟨rfl,h5,t5⟩;have g0:=Turn.pair2 t5 c0 HWB.out HBF.out;have H5:=Lib.hid h5;clear h5 t5)))
 all_goals
  go_wp2_with fail
  go_ret3
  exact⟨rfl,H5.out⟩
theorem MDoesF_any(N:Nat×Nat×Nat×StL×Nat)(w0 w:World)(wb sb b:Nat)(σ:StL)(h:M7 N w0 w wb sb b σ)(ka:Option Addr)(kn kc:Nat)(a:Act7)(ha:a.Wf)(hk:a.k=9):
  Calls Tryz.prog 9 #[ptrV wb,actV (.slice ka kn kc) a] w fun e w'=>e=.returned (.tuple #[.int .i64 0,strV [],.int .i64 0])∧M7 N w0 w' wb sb b (σ.fuse (pickZ a.n 200:Nat)):=by
 obtain⟨wa,hwa⟩:∃wa,wa=w.alloc (.cells #[.int .i64 a.op,.int .i64 a.at_,.int .i64 a.n,.slice ka kn kc,.int .u8 (a.byte.toNat:Nat)] 35):=⟨_,rfl⟩
 have qa:Q w wa:=by rw[hwa];exact Q.alloc _ _
 have hbx:Blk wa w.heap.size 35 (actCs ka kn kc a):=by rw[hwa];exact Blk.new w _ _
 obtain⟨F,hlt,hwb,hs,hcl⟩:=h.call qa
 have hbF:¬F w.heap.size:=fun hf=>by have:=hlt _ hf;omega
 have hfu:∀W,Q wa W→Calls Tryz.prog 43 #[ptrV b,.int .i64 (pickZ a.n 200:Nat)] W fun e w'=>e=.returned (.tuple #[])∧M7 N w0 w' wb sb b (σ.fuse (pickZ a.n 200:Nat))∧Turn F wa w':=fun W q=>((hs.keep (qa.trans q)).fuseA _).mono fun e w' h1=>⟨h1.1,hcl W w' _ q h1.2.1 h1.2.2⟩
 have hpk:=fun (W:World)=>Pick7_any a.op 11 W ha.op.1 ha.op.2 (by decide) (by decide)
 have hpn:∀W,Calls Tryz.prog 6 #[.int .i64 a.n,.int .i64 200] W fun e w'=>e=.returned (.int .i64 (pickZ a.n 200:Nat))∧W=w':=fun W=>Pick7_any a.n 200 W ha.n.1 ha.n.2 (by decide) (by decide)
 obtain⟨b0,_,b2,_,_⟩:=hbx.c5
 obtain⟨c1,_⟩:=(h.keep qa).cells
 have HFU:=Lib.hid hfu;have HPK:=Lib.hid hpk;have HPN:=Lib.hid hpn
 have HWB:=Lib.hid hwb;have HBF:=Lib.hid hbF
 clear hfu hpk hpn hwb hbF hcl hlt hs hbx qa h
 have hk':pickZ a.op 11=9:=hk
 generalize pickZ a.n 200=pn at *
 unfold actV
 go_enter Tryz.func9,Tryz.ntmps9
 go_wp2_with fail
 rw[←hwa]
 clear hwa
 refine(HPK.out _).mono ?_
 rintro e w1 ⟨rfl,rfl⟩
 have KK:=Lib.hid (Q.refl wa)
 rw[hk']
 clear hk' hk
 have c0:=show _∧_ from⟨c1,b2⟩
 go_wp2_with fail
 (go_region_held3 (fun w'=>w'.cell? ⟨wb,0,none⟩=some (ptrV b)∧w'.cell? ⟨w.heap.size,2,none⟩=some (.int .i64 a.n))
  (first|exact g0|exact c0|exact pair2 (by repeat (first|with_reducible exact KK.out|with_reducible exact Q.refl _|with_reducible apply Qs.dr|with_reducible apply Qs.al)) c0)
  (first
   | (go_at_call 6;with_reducible refine(HPN.out _).mono ?_;rintro e w3x ⟨rfl,rfl⟩)
   | (go_at_call 43;with_reducible refine(HFU.out _ (by repeat (first|with_reducible exact KK.out|with_reducible exact Q.refl _|with_reducible apply Qs.dr|with_reducible apply Qs.al))).mono ?_;rintro e w5 ⟨rfl,h5,t5⟩;have g0:=Turn.pair2 t5 c0 HWB.out HBF.out;have H5:=Lib.hid h5;clear h5 t5)))
 all_goals
  go_wp2_with fail
  go_ret3
  exact⟨rfl,H5.out⟩
end
section
open Go.RowKit
def SAt(w0 w:World)(sb b:Nat)(σ:StL)(K:Nat):Prop:=∃F:Nat→Prop,(∀k,F k→w0.heap.size≤k)∧StAt w F sb b σ K∧Q w0 w
section
variable {w0 w:World} {sb b:Nat} {σ:StL} {K:Nat}
theorem SAt.turn(h:SAt w0 w sb b σ K):∃F:Nat→Prop,StAt w F sb b σ K∧∀w' σ' K',(StAt w' (grow F w w') sb b σ' K'∧Turn F w w')→SAt w0 w' sb b σ' K':=by
 obtain⟨F,hF,hs,q⟩:=h
 exact⟨F,hs,fun w' σ' K' ⟨h1,t⟩=>⟨grow F w w',grow_low hF q.size,h1,t.low hF q⟩⟩
theorem SAt.keep{w':World}(h:SAt w0 w sb b σ K)(q:Q w w'):SAt w0 w' sb b σ K:=by
 obtain⟨F,hF,hs,q0⟩:=h
 exact⟨F,hF,hs.keep q,q0.trans q⟩
theorem SAt.q(h:SAt w0 w sb b σ K):Q w0 w:=by
 obtain⟨F,hF,hs,q0⟩:=h
 exact q0
theorem SAt.write(h:SAt w0 w sb b σ K)(i:Int)(s:Bytes)(hn:StNum σ)(hK:K+1≤1000000000000000000)(hs:s.length≤1000000000000):
  Calls Tryz.prog 22 #[ptrV sb,.int .i64 i,strV s] w fun e w'=>e=.returned (.int .i64 (σ.write i s).2)∧SAt w0 w' sb b (σ.write i s).1 (K+1):=by
 obtain⟨F,hs',ht⟩:=h.turn
 exact(SWrite_any w F sb b σ K i s hs' hn hK hs).mono fun e w' ⟨h1,h2⟩=>⟨h1,ht _ _ _ h2⟩
theorem SAt.alloc(h:SAt w0 w sb b σ K)(c:Int)(hn:StNum σ)(hK:K+2≤1000000000000000000):
  Calls Tryz.prog 20 #[ptrV sb,.int .i64 c] w fun e w'=>e=.returned (.tuple #[.int .i64 (σ.alloc c).2.1,.int .i64 (σ.alloc c).2.2])∧SAt w0 w' sb b (σ.alloc c).1 (K+2):=by
 obtain⟨F,hs',ht⟩:=h.turn
 exact(SAlloc_any w F sb b σ K c hs' hn hK).mono fun e w' ⟨h1,h2⟩=>⟨h1,ht _ _ _ h2⟩
theorem SAt.release(h:SAt w0 w sb b σ K)(a c:Int)(hn:StNum σ)(hK:K+2≤1000000000000000000):
  Calls Tryz.prog 25 #[ptrV sb,.int .i64 a,.int .i64 c] w fun e w'=>e=.returned (.int .i64 (σ.release a c).2)∧SAt w0 w' sb b (σ.release a c).1 (K+2):=by
 obtain⟨F,hs',ht⟩:=h.turn
 exact(SRelease_any w F sb b σ K a c hs' hn hK).mono fun e w' ⟨h1,h2⟩=>⟨h1,ht _ _ _ h2⟩
theorem SAt.begin_(h:SAt w0 w sb b σ K):
  Calls Tryz.prog 21 #[ptrV sb] w fun e w'=>e=.returned (.int .i64 σ.begin.2)∧SAt w0 w' sb b σ.begin.1 K:=by
 obtain⟨F,hs',ht⟩:=h.turn
 exact(SBegin_any w F sb b σ K hs').mono fun e w' ⟨h1,h2⟩=>⟨h1,ht _ _ _ h2⟩
theorem SAt.abort(h:SAt w0 w sb b σ K):
  Calls Tryz.prog 26 #[ptrV sb] w fun e w'=>e=.returned (.tuple #[])∧SAt w0 w' sb b σ.abort K:=by
 obtain⟨F,hs',ht⟩:=h.turn
 exact(SAbort_any w F sb b σ K hs').mono fun e w' ⟨h1,h2,h3⟩=>⟨h1,ht _ _ _ ⟨h2.mono (fun k hk=>.inl hk) (fun k hk=>hk.elim (h2.lt k) (fun hk=>hk.2)) (Nat.le_refl _),h3⟩⟩
theorem SAt.commit(h:SAt w0 w sb b σ K)(hn:StNum σ)(hp:σ.state true=0→σ.tx≠[]→ComPre σ):
  Calls Tryz.prog 24 #[ptrV sb] w fun e w'=>e=.returned (.int .i64 σ.commit.2)∧SAt w0 w' sb b σ.commit.1 K:=by
 obtain⟨F,hs',ht⟩:=h.turn
 exact(SCommit_any w F sb b σ K hs' hn hp).mono fun e w' ⟨h1,h2⟩=>⟨h1,ht _ _ _ h2⟩
theorem SAt.read(h:SAt w0 w sb b σ K)(i:Int)(hn:StNum σ)(hK:K≤1000000000000000000):
  Calls Tryz.prog 27 #[ptrV sb,.int .i64 i] w fun e w'=>e=.returned (.tuple #[strV (σ.read i).1,.int .i64 (σ.read i).2])∧SAt w0 w' sb b σ (K+1):=by
 obtain⟨F,hs',ht⟩:=h.turn
 exact(SRead_any w F sb b σ K i hs' hn hK).mono fun e w' ⟨h1,h2⟩=>⟨h1,ht _ _ _ h2⟩
theorem SAt.free(h:SAt w0 w sb b σ K)(hn:StNum σ):
  Calls Tryz.prog 11 #[ptrV sb] w fun e w'=>e=.returned (.int .i64 (σ.free:Nat))∧Q w w':=by
 obtain⟨F,_,⟨FJ,FC,p,cb,tb,most,clock,ms,mb,m,ti,hg,_⟩,_⟩:=h
 exact SFree_any hg hn
theorem SAt.first(h:SAt w0 w sb b σ K)(hn:StNum σ):
  Calls Tryz.prog 19 #[ptrV sb] w fun e w'=>e=.returned (.int .i64 (firstD σ.n:Nat))∧w=w':=by
 obtain⟨F,_,⟨FJ,FC,p,cb,tb,most,clock,ms,mb,m,ti,hg,_⟩,_⟩:=h
 exact SFirst_any hg hn.max
theorem SAt.used(h:SAt w0 w sb b σ K)(hn:StNum σ):
  Calls Tryz.prog 16 #[ptrV sb] w fun e w'=>∃v,e=.returned v∧w'.ownsRow w.heap.size 64 2 v (usedR σ.map1 (firstD σ.n) σ.n).length (ext (usedR σ.map1 (firstD σ.n) σ.n))∧Q w w':=by
 obtain⟨F,_,hs,_⟩:=h
 exact SUsed_any w F sb b σ K hs hn
end
end
end Go.Proofs.YthcpkgfieoneeaaGreatDoor
