/- Joined texts of one proof. -/
import Derived.Test.YthijhicdmnoifaaGreatDoorRWUtf
import Derived.Deep.RegionHeld3
set_option linter.unusedSimpArgs false
set_option linter.unusedVariables false
set_option linter.unnecessarySimpa false
set_option maxRecDepth 100000
set_option maxHeartbeats 8000000
namespace Go.Proofs.YthijhicdmnoifaaGreatDoor
section
open Go.RowKit
attribute [local go_sem] Oper.semAt_some
def iw(id:Nat):Code→Option Code
 | .region i ops b=>if i=id then some (.region i ops b) else none
 | .seq a b=>match iw id a with
  | some c=>some c
  | none=>iw id b
 | .block _ c=>iw id c
 | .scope c=>iw id c
 | .loop c=>iw id c
 | .cond _ a b=>match iw id a with
  | some c=>some c
  | none=>iw id b
 | .rangeFunc _ _ a b=>match iw id a with
  | some c=>some c
  | none=>iw id b
 | _=>none
noncomputable def wordsYield:Code:=((Tryz.f170.body.bind (iw 10)).getD .skip)
noncomputable def wordsLast:Code:=((Tryz.f170.body.bind (iw 13)).getD .skip)
theorem aeJ(s:Bytes)(l l' B Y F f p:Nat)(w:World)(YPost:Bool→World→Prop)(Cu:f<p)(hp:p≤s.length)(hs:s.length≤10000000000000)
  (cS:w.cell? ⟨B,0,none⟩=some (ak s)) (cY:w.cell? ⟨Y,0,none⟩=some (.func (.yield l) #[] #[])) (cF:w.cell? ⟨F,0,none⟩=some (.int .i64 (f:Int)))
  {fn:FuncId} {tmps:Array Value} {assign body:Code} (hy:(Instr.yield l #[.string (({ data:=s.toArray }:ByteArray).extract f p)]).run Tryz.prog w.drew=.ok (.round l fn tmps assign body) w.drew)
  (HR:Hid (∀m,RoundIn Fence.wide m Tryz.prog l fn tmps assign body w.drew fun e W'=>∃b:Bool,e=.returned (.bool b)∧YPost b W'))
  (Qx:Exit→Act→World→Prop) (x0 u5 u6 u7 u8 u9 u10 u11 u12 u13 u14 u15 u16 u17 u18 u19 u20 u21 u22 u23 u24 u25 u26 u27 u28 u29 u30 u31 u32 u33 u34 u35 u36 u37 u38 u39 u40 u41 u42 u43:Value)
  (hQ:∀b w4,YPost b w4→Qx .normal ⟨#[x0,.pointer (some ⟨B,0,none⟩),.pointer (some ⟨Y,0,none⟩),.pointer (some ⟨F,0,none⟩),.int .i64 p,u5,u6,u7,u8,u9,u10,u11,u12,u13,u14,u15,u16,u17,u18,u19,u20,u21,u22,u23,u24,u25,u26,u27,u28,u29,.func (.yield l) #[] #[],ak s,.int .i64 f,.int .i64 p,.string (({ data:=s.toArray }:ByteArray).extract f p),.bool b,.bool !b,u37,u38,u39,u40,u41,u42,u43],[]⟩ w4) :
  wordsYield.wpIn (Fence.wide.inRound l') 0 Tryz.prog Qx ⟨#[x0,.pointer (some ⟨B,0,none⟩),.pointer (some ⟨Y,0,none⟩),.pointer (some ⟨F,0,none⟩),.int .i64 p,u5,u6,u7,u8,u9,u10,u11,u12,u13,u14,u15,u16,u17,u18,u19,u20,u21,u22,u23,u24,u25,u26,u27,u28,u29,u30,u31,u32,u33,u34,u35,u36,u37,u38,u39,u40,u41,u42,u43],[]⟩ w:=by
 conv=>arg 4;whnf
 have pz:Tryz.prog.follows .mixedOrders=true:=by kernel_rfl
 have zq:=Hd hQ;clear hQ;gi_region_with_o ((refine⟨rfl,(abe _ (HR.out _)).mono ?_⟩;rintro e w4 ⟨b,rfl,gL⟩));all_goals exact zq.out b w4 gL
theorem ag4(s:Bytes)(l B Y F f:Nat)(w:World)(YPost:Bool→World→Prop)(hf:f<s.length)(hs:s.length≤10000000000000)
  (cS:w.cell? ⟨B,0,none⟩=some (ak s)) (cY:w.cell? ⟨Y,0,none⟩=some (.func (.yield l) #[] #[])) (cF:w.cell? ⟨F,0,none⟩=some (.int .i64 (f:Int)))
  {fn:FuncId} {tmps:Array Value} {assign body:Code} (hy:(Instr.yield l #[.string (({ data:=s.toArray }:ByteArray).extract f s.length)]).run Tryz.prog w.drew=.ok (.round l fn tmps assign body) w.drew)
  (HR:Hid (∀m,RoundIn Fence.wide m Tryz.prog l fn tmps assign body w.drew fun e W'=>∃b:Bool,e=.returned (.bool b)∧YPost b W'))
  (ds:List Deferred) (Qx:Exit→Act→World→Prop) (x0 u4 u5 u6 u7 u8 u9 u10 u11 u12 u13 u14 u15 u16 u17 u18 u19 u20 u21 u22 u23 u24 u25 u26 u27 u28 u29 u30 u31 u32 u33 u34 u35 u36 u37 u38 u39 u40 u41 u42 u43:Value)
  (hQ:∀b w4 z39 z40 z41 z42 z43,YPost b w4→Qx .normal ⟨#[x0,.pointer (some ⟨B,0,none⟩),.pointer (some ⟨Y,0,none⟩),.pointer (some ⟨F,0,none⟩),u4,u5,u6,u7,u8,u9,u10,u11,u12,u13,u14,u15,u16,u17,u18,u19,u20,u21,u22,u23,u24,u25,u26,u27,u28,u29,u30,u31,u32,u33,u34,u35,u36,u37,u38,z39,z40,z41,z42,z43],ds⟩ w4) :
  wordsLast.wpIn Fence.wide 0 Tryz.prog Qx ⟨#[x0,.pointer (some ⟨B,0,none⟩),.pointer (some ⟨Y,0,none⟩),.pointer (some ⟨F,0,none⟩),u4,u5,u6,u7,u8,u9,u10,u11,u12,u13,u14,u15,u16,u17,u18,u19,u20,u21,u22,u23,u24,u25,u26,u27,u28,u29,u30,u31,u32,u33,u34,u35,u36,u37,u38,u39,u40,u41,u42,u43],ds⟩ w:=by
 conv=>arg 4;whnf
 have pz:Tryz.prog.follows .mixedOrders=true:=by kernel_rfl
 have zq:=Hd hQ;clear hQ;gi_region_with_o ((refine⟨rfl,(HR.out _).mono ?_⟩;rintro e w4 ⟨b,rfl,gL⟩));all_goals exact zq.out b w4 _ _ _ _ _ gL
end
section
open Go.RowKit
attribute [local go_sem] Oper.semAt_some
theorem words_any(s:Bytes)(w:World):
  Calls Tryz.prog 136 #[.string ⟨s.toArray⟩] w fun e w'=>e=.returned (.func (.func 170) #[] #[.pointer (some ⟨w.heap.size,0,none⟩)])∧w.alloc (.cells #[ak s] 9)=w':=by
 go_enter Tryz.func136,Tryz.ntmps136;go_wp2_with fail;go_ret;exact⟨rfl,rfl⟩
abbrev RU(x:Bytes):Array Value:=#[ak x]
def FZ:Option Nat→Int
 | none => -1
 | some f=>f
def WordsMid(s:Bytes)(k j p:Nat)(st:Option Nat):Prop :=
 (bT s).drop j=dJ ((chunks s).drop k) (st.map fun f=>(s.drop f).take (p-f))∧(dD s).drop k=mV p ((chunks s).drop k)∧(chunks s).drop k=chunks (s.drop p)∧p≤s.length∧(∀f,st=some f→f<p)∧j≤(bT s).length
theorem WordsMid.start(s:Bytes):WordsMid s 0 0 0 none:=⟨by simp[bT],by simp,by simp,by omega,by simp,by omega⟩
theorem take_more(l:Bytes)(a b:Nat):l.take (a+b)=l.take a++(l.drop a).take b:=by rw[List.take_add]
theorem WordsMid.next{s:Bytes}{k j p:Nat}{st:Option Nat}(h:WordsMid s k j p st)(hk:k<(dD s).length):
  ∃c n,(dD s)[k]?=some (p,c)∧(chunks s).drop k=(c,(s.drop p).take n)::(chunks s).drop (k+1)∧(dD s).drop (k+1)=mV (p+n) ((chunks s).drop (k+1))∧(chunks s).drop (k+1)=chunks (s.drop (p+n))∧1≤n∧p+n≤s.length ∧ -1≤c∧c≤1114111:=by
 obtain⟨h1,h2,h3,h4,h5,h6⟩:=h;have hkc:k<(chunks s).length:=by rwa [wO] at hk
 have aF:s.drop p≠[]:=by
  intro e;rw[e,Dy,List.drop_eq_getElem_cons hkc] at h3;cases h3
 have aY:=lV _ aF;rw[List.length_drop] at aY;have hc:=kK _ aF;rw[List.drop_drop] at hc;have e3:(chunks s).drop (k+1)=chunks (s.drop (p+(aP (s.drop p)).2)):=by
  have:(chunks s).drop (k+1)=((chunks s).drop k).drop 1:=by rw[List.drop_drop]
  rw[this,h3,hc];rfl
 have e1:(chunks s).drop k=((aP (s.drop p)).1,(s.drop p).take (aP (s.drop p)).2)::(chunks s).drop (k+1):=by rw[h3,hc,e3]
 have hl:((s.drop p).take (aP (s.drop p)).2).length=(aP (s.drop p)).2:=by rw[List.length_take,List.length_drop];omega
 have hx:(dD s).drop k=(p,(aP (s.drop p)).1)::mV (p+(aP (s.drop p)).2) ((chunks s).drop (k+1)):=by rw[h2,e1,mV,hl]
 have hxk:(dD s)[k]?=some (p,(aP (s.drop p)).1):=by
  have:=congrArg (fun l=>l[0]?) hx
  simpa[List.getElem?_drop] using this
 obtain⟨c,gX,dM,_,_,BO,KQ⟩:=abu s k _ hxk;refine⟨(aP (s.drop p)).1,(aP (s.drop p)).2,hxk,e1,?_,e3,aY.1,by omega,by simp only at dM;omega,by simp only at dM;omega⟩
 have:(dD s).drop (k+1)=((dD s).drop k).drop 1:=by rw[List.drop_drop]
 rw[this,hx];rfl
theorem WordsMid.word_none{s:Bytes}{k j p:Nat}(h:WordsMid s k j p none){c:Int}{n:Nat}(h1:(chunks s).drop k=(c,(s.drop p).take n)::(chunks s).drop (k+1))(h2:(dD s).drop (k+1)=mV (p+n) ((chunks s).drop (k+1)))(h3:(chunks s).drop (k+1)=chunks (s.drop (p+n)))(hn:1≤n)(hp:p+n≤s.length)
  (hw:fG c=true):WordsMid s (k+1) j (p+n) (some p):=by
 obtain⟨a1,a2,a3,a4,a5,a6⟩:=h;refine⟨?_,h2,h3,hp,fun f e=>by cases e;omega,a6⟩
 rw[a1,h1];simp only[Option.map_none,Option.map_some,dJ,hw,if_true];rw[show p+n-p=n by omega]
theorem WordsMid.word_some{s:Bytes}{k j p f:Nat}(h:WordsMid s k j p (some f)){c:Int}{n:Nat}(h1:(chunks s).drop k=(c,(s.drop p).take n)::(chunks s).drop (k+1))(h2:(dD s).drop (k+1)=mV (p+n) ((chunks s).drop (k+1)))(h3:(chunks s).drop (k+1)=chunks (s.drop (p+n)))(hn:1≤n)(hp:p+n≤s.length)
  (hw:fG c=true):WordsMid s (k+1) j (p+n) (some f):=by
 obtain⟨a1,a2,a3,a4,a5,a6⟩:=h;have hf:=a5 f rfl;refine⟨?_,h2,h3,hp,fun g e=>by cases e;omega,a6⟩
 rw[a1,h1];simp only[Option.map_some,dJ,hw,if_true];have e:(s.drop f).take (p+n-f)=(s.drop f).take (p-f)++(s.drop p).take n:=by
  rw[show p+n-f=(p-f)+n by omega,take_more,List.drop_drop,show f+(p-f)=p by omega]
 rw[e]
theorem WordsMid.other_none{s:Bytes}{k j p:Nat}(h:WordsMid s k j p none){c:Int}{n:Nat}(h1:(chunks s).drop k=(c,(s.drop p).take n)::(chunks s).drop (k+1))(h2:(dD s).drop (k+1)=mV (p+n) ((chunks s).drop (k+1)))(h3:(chunks s).drop (k+1)=chunks (s.drop (p+n)))(hp:p+n≤s.length)
  (hw:fG c=false):WordsMid s (k+1) j (p+n) none:=by
 obtain⟨a1,a2,a3,a4,a5,a6⟩:=h;refine⟨?_,h2,h3,hp,fun f e=>(by cases e),a6⟩
 rw[a1,h1];simp[dJ,hw]
theorem WordsMid.other_some{s:Bytes}{k j p f:Nat}(h:WordsMid s k j p (some f)){c:Int}{n:Nat}(h1:(chunks s).drop k=(c,(s.drop p).take n)::(chunks s).drop (k+1))(h2:(dD s).drop (k+1)=mV (p+n) ((chunks s).drop (k+1)))(h3:(chunks s).drop (k+1)=chunks (s.drop (p+n)))(hp:p+n≤s.length)
  (hw:fG c=false):∃hj:j<(bT s).length,(bT s)[j]=(s.drop f).take (p-f)∧WordsMid s (k+1) (j+1) (p+n) none:=by
 obtain⟨a1,a2,a3,a4,a5,a6⟩:=h;rw[h1] at a1;simp only[Option.map_some,dJ,hw,Bool.false_eq_true,if_false] at a1;have hj:j<(bT s).length:=by
  rcases Nat.lt_or_ge j (bT s).length with h|h
  ·exact h
  ·rw[List.drop_eq_nil_of_le h] at a1;cases a1
 rw[List.drop_eq_getElem_cons hj] at a1;injection a1 with b1 b2;exact⟨hj,b1,b2,h2,h3,hp,fun f e=>(by cases e),by omega⟩
theorem WordsMid.end_none{s:Bytes}{k j p:Nat}(h:WordsMid s k j p none)(hk:k=(dD s).length):j=(bT s).length:=by
 obtain⟨a1,a2,a3,a4,a5,a6⟩:=h;rw[wO] at hk;rw[hk,List.drop_length] at a1;simp only[Option.map_none,dJ] at a1;have:=congrArg List.length a1;rw[List.length_drop,List.length_nil] at this;omega
theorem WordsMid.end_some{s:Bytes}{k j p f:Nat}(h:WordsMid s k j p (some f))(hk:k=(dD s).length):∃hj:j<(bT s).length,(bT s)[j]=s.drop f∧j+1=(bT s).length∧f<s.length:=by
 obtain⟨a1,a2,a3,a4,a5,a6⟩:=h;have hf:=a5 f rfl;rw[wO] at hk;rw[hk,List.drop_length] at a3;have hp:p=s.length:=by
  rcases Nat.lt_or_ge p s.length with h|h
  ·have aF:s.drop p≠[]:=fun e=>by have:=congrArg List.length e;rw[List.length_drop] at this;simp at this;omega
   rw[kK _ aF] at a3;cases a3
  ·omega
 rw[hk,List.drop_length] at a1;simp only[Option.map_some,dJ] at a1;rw[hp,List.take_of_length_le (by rw[List.length_drop];omega)] at a1
 have hj:j<(bT s).length:=by
  rcases Nat.lt_or_ge j (bT s).length with h|h
  ·exact h
  ·rw[List.drop_eq_nil_of_le h] at a1;cases a1
 rw[List.drop_eq_getElem_cons hj] at a1;injection a1 with b1 b2;refine⟨hj,b1,?_,by omega⟩
 have:=congrArg List.length b2;rw[List.length_drop,List.length_nil] at this;omega
def YP(J Jx:Nat→World→Prop)(j:Nat)(keep:Nat→Prop)(n₀:Nat)(W1:World)(b:Bool)(W':World):Prop:=(b=true→J (j+1) W'∧Bk keep n₀ W1 W')∧(b=false→Jx (j+1) W'∧Bk keep n₀ W1 W')
theorem VY{J Jx:Nat→World→Prop}{j:Nat}{keep:Nat→Prop}{n₀:Nat}{W1:World}(e:Ending)(W':World)(h:(e=.returned (.bool true)∧J (j+1) W'∧Bk keep n₀ W1 W')∨(e=.returned (.bool false)∧Jx (j+1) W'∧Bk keep n₀ W1 W')):
  ∃b:Bool,e=.returned (.bool b)∧YP J Jx j keep n₀ W1 b W':=by
 rcases h with ⟨rfl,h1,h2⟩|⟨rfl,h1,h2⟩
 ·exact⟨true,rfl,fun _=>⟨h1,h2⟩,fun h=>(by cases h)⟩
 ·exact⟨false,rfl,fun h=>(by cases h),fun _=>⟨h1,h2⟩⟩
def WordsI(s:Bytes)(B n₀ l:Nat)(W:World)(J:Nat→World→Prop)(k:Nat)(W1:World):Prop :=
 ∃j p st,WordsMid s k j p st∧J j W1∧Boxed W1 B 9 (ak s)∧Boxed W1 W.heap.size 138 (.func (.yield l) #[] #[])∧Boxed W1 (W.heap.size+1) 3 (.int .i64 (FZ st))∧Boxed W1 (W.heap.size+2) 9 (ak s)∧Below n₀ W W1
theorem words_seq(s:Bytes)(B n₀:Nat)(W:World)(hs:s.length≤10000000000000)(hb:Boxed W B 9 (ak s))(hn:n₀≤W.heap.size)(Kh:∀W',Below n₀ W W'→Tabs W'∧Spans W'):
  Seq Tryz.prog 170 #[.pointer (some ⟨B,0,none⟩)] RU (fun k=>k=W.heap.size+1) (fun k=>k=B∨(W.heap.size≤k∧k<W.heap.size+5)) n₀ (bT s) W:=by
 intro n l J Jx hJ Ug hY h0;have as4:=hb.lt;refine callsIn_wide.2 ((callsIn_wide (n:=0)).1 ?_);refine callsIn_of_wp_marks Tryz.func170 rfl trivial ?_ rfl;simp only[Tryz.ntmps170,List.size_toArray,List.length_cons,List.length_nil,Nat.reduceAdd,Nat.reduceSub,Array.replicate_succ,Array.replicate_zero,List.push_toArray,List.append_toArray,List.nil_append,List.cons_append];have hc:=hb.cell;have QI:((W.alloc (.cells #[.func (.yield l) #[] #[]] 138)).alloc (.cells #[.int .i64 (-1)] 3)).cell? ⟨B,0,none⟩=some (ak s):=((hb.alloc _).alloc _).cell;have pI:=Hd hb;have HY:=Hd hY;have H0:=Hd h0;have gM:=Hd Kh;have HJ:=Hd hJ;have QE:=Hd Ug;clear hb hY h0 Kh hJ Ug;gi_wp2_with fail;refine⟨trivial,rfl,(callsIn_wide.2 (YV s _)).mono ?_⟩;rintro e w1 ⟨rfl,rfl⟩;gi_wp2_with fail;clear QI hc;have iR:Q W (((W.alloc (.cells #[.func (.yield l) #[] #[]] 138)).alloc (.cells #[.int .i64 (-1)] 3)).alloc (.cells #[ak s] 9)):=((Q.alloc W _).trans (Q.alloc _ _)).trans (Q.alloc _ _);have aY:(((W.alloc (.cells #[.func (.yield l) #[] #[]] 138)).alloc (.cells #[.int .i64 (-1)] 3)).alloc (.cells #[ak s] 9)).heap.size=W.heap.size+3:=by simp
 have b0:Boxed (((W.alloc (.cells #[.func (.yield l) #[] #[]] 138)).alloc (.cells #[.int .i64 (-1)] 3)).alloc (.cells #[ak s] 9)) W.heap.size 138 (.func (.yield l) #[] #[]):=((Boxed.new W _ _).alloc _).alloc _;have b1:Boxed (((W.alloc (.cells #[.func (.yield l) #[] #[]] 138)).alloc (.cells #[.int .i64 (-1)] 3)).alloc (.cells #[ak s] 9)) (W.heap.size+1) 3 (.int .i64 (-1)):=by
  have:=(Boxed.new (W.alloc (.cells #[.func (.yield l) #[] #[]] 138)) 3 (.int .i64 (-1))).alloc (.cells #[ak s] 9);simpa using this
 have b2:Boxed (((W.alloc (.cells #[.func (.yield l) #[] #[]] 138)).alloc (.cells #[.int .i64 (-1)] 3)).alloc (.cells #[ak s] 9)) (W.heap.size+2) 9 (ak s):=by
  have:=Boxed.new ((W.alloc (.cells #[.func (.yield l) #[] #[]] 138)).alloc (.cells #[.int .i64 (-1)] 3)) 9 (ak s);simpa using this
 obtain⟨W0,ZU⟩:∃W0,((W.alloc (.cells #[.func (.yield l) #[] #[]] 138)).alloc (.cells #[.int .i64 (-1)] 3)).alloc (.cells #[ak s] 9)=W0:=⟨_,rfl⟩;rw[ZU] at iR aY b0 b1 b2 ⊢;clear ZU;have AB:=Hd aY;refine UA (gf:=139) (lb:=#[.pointer (some ⟨W.heap.size+1+1,0,none⟩)]) rfl (enters_of Tryz.func139 (by kernel_rfl) rfl) (encs:=MG) (own:=fun _=>False) (keep:=fun k=>k=W.heap.size+2) (n₀:=n₀) (xs:=dD s)
  (fun W1 hq hz=>YW s (W.heap.size+2) n₀ W1 (by omega) (aB hq b2) (by omega) (fun W' hb=>(gM.out W' (((Below.mono iR hn).trans (Below.mono hq (by omega))).trans hb)).1))
  (fun _ h=>h.elim) (fun k h=>by omega) (by omega) (fun _=>rfl)
  (WordsI s B n₀ l W J)
  (fun c _ W1=>c=.ret∧∃j,j≤(bT s).length∧Jx j W1)
  (fun k a' _=>∃(x:Nat×Int),(dD s)[k]?=some x∧a'={ tmps:=#[.func (.yield l) #[] #[],.pointer (some ⟨B,0,none⟩),.pointer (some ⟨W.heap.size,0,none⟩),.pointer (some ⟨W.heap.size+1,0,none⟩),.int .i64 x.1,.int .i64 x.2,undef,ak s,.func (.func 139) #[] #[.pointer (some ⟨W.heap.size+1+1,0,none⟩)],.int .i64 x.1,.int .i64 x.2,
   undef,undef,undef,undef,undef,undef,undef,undef,undef,undef,undef,undef,undef,undef,undef,undef,undef,undef,undef,undef,undef,undef,undef,undef,undef,undef,undef,undef,undef,undef,undef,undef,undef],defers:=[] })
  (fun k A C hI hi=>by
   obtain⟨j,p,st,h1,h2,h3,h4,h5,h6,h7⟩:=hI;exact⟨j,p,st,h1,HJ.out _ _ _ h2 (hi.mono (fun _ h=>h.elim) (by omega)),hi.boxed h3 (fun h=>h),hi.boxed h4 (fun h=>h),hi.boxed h5 (fun h=>h),hi.boxed h6 (fun h=>h),hi.below h7 (by omega) (by have:=h7.size;omega) (fun _ h=>h.elim)⟩)
  (fun c k A C h hi=>⟨h.1,by obtain⟨j,h1,h2⟩:=h.2;exact⟨j,h1,QE.out _ _ _ h2 (hi.mono (fun _ h=>h.elim) (by omega))⟩⟩) (fun _ _ _ _ h _=>h)
  ⟨0,0,none,WordsMid.start s,HJ.out _ _ _ H0.out (Itk.of_q iR),aB iR pI.out,b0,b1,b2,Below.mono iR hn⟩ ?assign ?body ?done ?stop
 case assign =>
  intro l' k hk W' K hi hz hK;gi_wp2;exact hK _ _ (Q.refl _) hi ⟨_,List.getElem?_eq_getElem hk,rfl⟩
 case body =>
  rintro l' k hk a' W' ⟨⟨rc,Nl⟩,Dt⟩ hl ⟨j,p,st,h1,h2,h3,h4,h5,h6,h7⟩ ⟨x,hx,rfl⟩ _ hz;obtain⟨c,n,Kc,e1,e2,e3,qC,KX,BO,KQ⟩:=h1.next hk;rw[hx] at Kc;simp only[Option.some.injEq] at Kc;subst Kc;subst hl;simp only;have JA:fG c=(decide (0≤c)&&(qJ c==1||qJ c==2)):=rfl;have Ih:=abg c;have ck:=Kind_any c W' BO KQ (gM.out W' h7).2;have hnW:=h7.size;have CK:=Hd ck;have GL:=Hd JA;have H1:=Hd h1;have H2:=Hd h2;have H3:=Hd h3;have H4:=Hd h4;have H5:=Hd h5;have H6:=Hd h6;have H7:=Hd h7;have E1:=Hd e1;have E2:=Hd e2;have E3:=Hd e3;have HRC:=Hd Nl;have Sd:=Hd Dt;clear ck JA h1 h2 h3 h4 h5 h6 h7 e1 e2 e3 hx Nl Dt aY iR b0 b1 b2;generalize qJ c=kd at *;gi_wp2_with fail;refine⟨trivial,rfl,(nZ _ CK.out).mono ?_⟩;rintro e w3 ⟨rfl,q3⟩;have k3:=aB q3 H3.out;have k4:=aB q3 H4.out;have k5:=aB q3 H5.out;have k6:=aB q3 H6.out;have kl:=aB q3 HRC.out;have kd':=aB q3 Sd.out;have k7:=H7.out.trans (Below.mono q3 (by omega))
  have k2:=HJ.out _ _ _ H2.out (Itk.of_q q3);have kk:Bk (fun b=>b=W.heap.size+2∨b=W0.heap.size∨b=W0.heap.size+1) n₀ W' w3:=Bk.of_q q3 (by omega)
  have cS:w3.cell? ⟨B,0,none⟩=some (ak s):=Boxed.cell k3;have cY:w3.cell? ⟨W.heap.size,0,none⟩=some (.func (.yield l) #[] #[]):=Boxed.cell k4;have cF:w3.cell? ⟨W.heap.size+1,0,none⟩=some (.int .i64 (FZ st)):=Boxed.cell k5;have fF:w3.frozen? ⟨W.heap.size+1,0,none⟩=false:=Boxed.frozen k5;have K3:=Hd k3;have K4:=Hd k4;have K5:=Hd k5;have K6:=Hd k6;have KL:=Hd kl;have KD:=Hd kd';have K7:=Hd k7;have K2:=Hd k2;have KK:=Hd kk;clear k3 k4 k5 k6 kl kd' k7 k2 kk q3;cases hw:fG c with
  | true =>
   have bC:0≤c∧(kd=1∨kd=2):=by
    have:=GL.out;rw[hw] at this;simpa using this.symm
   obtain⟨Gy,Sg⟩:=bC;have HW:=Hd hw;clear hw;cases st with
   | none =>
    rw[show FZ none = -1 from rfl] at cF
    rcases Sg with rfl|rfl;all_goals
     gi_wp2_with fail;refine⟨KK.out.trans (Bk.setCell _ (by show n₀≤W.heap.size+1;omega) (by show ¬(W.heap.size+1=W.heap.size+2∨W.heap.size+1=W0.heap.size∨W.heap.size+1=W0.heap.size+1);have:=AB.out;omega) _),j,p+n,some p,H1.out.word_none E1.out E2.out E3.out qC KX HW.out,?_,?_,?_,?_,?_,?_⟩
     ·exact HJ.out _ _ _ K2.out (Itk.setOwn (own:=fun k=>k=W.heap.size+1) w3 (b:=W.heap.size+1) rfl ⟨W.heap.size+1,0,none⟩ rfl _)
     ·exact Boxed.other K3.out (by omega) _
     ·exact Boxed.other K4.out (by omega) _
     ·exact Boxed.set _ K5.out
     ·exact Boxed.other K6.out (by omega) _
     ·exact K7.out.setCell (by show n₀≤W.heap.size+1;omega) _
   | some f =>
    rw[show FZ (some f)=(f:Int) from rfl] at cF
    rcases Sg with rfl|rfl;all_goals
     gi_wp2_with fail;exact⟨KK.out,j,p+n,some f,H1.out.word_some E1.out E2.out E3.out qC KX HW.out,K2.out,K3.out,K4.out,K5.out,K6.out,K7.out⟩
  | false =>
   have bC:c<0∨(0≤c∧(kd=0∨kd=3)):=by
    have:=GL.out;rw[hw] at this;simp at this;omega
   have HW:=Hd hw;clear hw;cases st with
   | none =>
    rw[show FZ none = -1 from rfl] at cF
    rcases bC with Gy|⟨Gy,rfl|rfl⟩;all_goals
     gi_wp2_with fail;exact⟨KK.out,j,p+n,none,H1.out.other_none E1.out E2.out E3.out KX HW.out,K2.out,K3.out,K4.out,K5.out,K6.out,K7.out⟩
   | some f =>
    rw[show FZ (some f)=(f:Int) from rfl] at cF
    have Cu:=H1.out.2.2.2.2.1 f rfl;obtain⟨iI,eZ,kR⟩:=H1.out.other_some E1.out E2.out E3.out KX HW.out;obtain⟨fn,tmps,assign,body,hy,hR⟩:=HY.out j iI w3.drew (HJ.out _ _ _ K2.out (Itk.of_q (Q.drew _))) (by
     intro b hb;have h0:=KL.out;have:=aU h0;have h1:=aU K3.out;have:=AB.out;show b<w3.heap.size;omega)
    rw[eZ] at hy;dsimp only[RU] at hy;rw[show ak ((s.drop f).take (p-f))=.string (({ data:=s.toArray }:ByteArray).extract f p) from by rw[Hf]] at hy
    have Kn:=fun m=>(hR m).mono VY
    have HR:=Hd Kn;have xu:=Hd kR;clear hR Kn kR eZ;rcases bC with Gy|⟨Gy,rfl|rfl⟩;all_goals
     gi_wp2_with fail;refine aeJ s l _ B W.heap.size (W.heap.size+1) f p w3 (YP J Jx j (fun k=>k=B∨(W.heap.size≤k∧k<W.heap.size+5)) n₀ w3.drew) Cu (by omega) hs cS cY cF hy HR _ _ _ _ _ _ _ _ _ _ _ _ _ _ _ _ _ _ _ _ _ _ _ _ _ _ _ _ _ _ _ _ _ _ _ _ _ _ _ _ _ ?_
     intro b w4 gL;cases b with
     | true =>
      obtain⟨KM,gZ⟩:=gL.1 rfl;have m3:Boxed w4 B 9 (ak s):=(gZ.own B (.inl rfl) (aU K3.out)).trans K3.out;have m4:Boxed w4 W.heap.size 138 (.func (.yield l) #[] #[]):=(gZ.own _ (.inr ⟨by omega,by omega⟩) (aU K4.out)).trans K4.out
      have m5:Boxed w4 (W.heap.size+1) 3 (.int .i64 (FZ (some f))):=(gZ.own _ (.inr ⟨by omega,by omega⟩) (aU K5.out)).trans K5.out
      have m6:Boxed w4 (W.heap.size+2) 9 (ak s):=(gZ.own _ (.inr ⟨by omega,by omega⟩) (aU K6.out)).trans K6.out
      have m7:=K7.out.drew.trans gZ.below;have cF4:w4.cell? ⟨W.heap.size+1,0,none⟩=some (.int .i64 (FZ (some f))):=Boxed.cell m5;have fF4:w4.frozen? ⟨W.heap.size+1,0,none⟩=false:=Boxed.frozen m5;have mk:Bk (fun b=>b=W.heap.size+2∨b=W0.heap.size∨b=W0.heap.size+1) n₀ W' w4:=(KK.out.trans (Bk.of_q (Q.drew _) (by have:=K7.out.size;omega))).trans (gZ.mono (fun b h=>by
       have:=AB.out;right;rcases h with rfl|h|h<;>omega) (Nat.le_refl _))
      have Yx:=m7.size;have M3:=Hd m3;have M4:=Hd m4;have M5:=Hd m5;have M6:=Hd m6;have M7:=Hd m7;have MK:=Hd mk;have MJ:=Hd KM;clear m3 m4 m5 m6 m7 mk KM gZ gL;gi_wp2_with fail;refine⟨MK.out.trans (Bk.setCell _ (by show n₀≤W.heap.size+1;omega) (by show ¬(W.heap.size+1=W.heap.size+2∨W.heap.size+1=W0.heap.size∨W.heap.size+1=W0.heap.size+1);have:=AB.out;omega) _),j+1,p+n,none,xu.out,?_,?_,?_,?_,?_,?_⟩
      ·exact HJ.out _ _ _ MJ.out (Itk.setOwn (own:=fun k=>k=W.heap.size+1) w4 (b:=W.heap.size+1) rfl ⟨W.heap.size+1,0,none⟩ rfl _)
      ·exact Boxed.other M3.out (by omega) _
      ·exact Boxed.other M4.out (by omega) _
      ·exact Boxed.set _ M5.out
      ·exact Boxed.other M6.out (by omega) _
      ·exact M7.out.setCell (by show n₀≤W.heap.size+1;omega) _
     | false =>
      obtain⟨KM,gZ⟩:=gL.2 rfl;have mk:Bk (fun b=>b=W.heap.size+2∨b=W0.heap.size∨b=W0.heap.size+1) n₀ W' w4:=(KK.out.trans (Bk.of_q (Q.drew _) (by have:=K7.out.size;omega))).trans (gZ.mono (fun b h=>by
       have:=AB.out;right;rcases h with rfl|h|h<;>omega) (Nat.le_refl _))
      have HJ4:=Hd KM;have MK:=Hd mk;clear KM gZ gL mk;gi_wp2_with fail;exact⟨MK.out,rfl,j+1,by omega,HJ4.out⟩
 case done =>
  rintro D W' hD hWz ⟨j,p,st,h1,h2,h3,h4,h5,h6,h7⟩ hK;obtain rfl:D=W.heap.size+3:=by omega
  have ada:=h7.size;have cS:=h3.cell;have cY:=h4.cell;have cF:=h5.cell;rw[aY] at hWz;clear hD aY b0 b1 b2 iR;cases st with
  | none =>
   rw[show FZ none = -1 from rfl] at cF
   have hj:=h1.end_none rfl;have H2:=Hd h2;have HK:=Hd hK;have HJE:=Hd hj;clear h2 hK hj h1 h3 h4 h5 h6;gi_wp2_with fail;refine⟨by simp,.inl ⟨_,_,rfl,run_takeDeferred HK.out,?_⟩⟩
   refine⟨_,results_none rfl _ _ _,⟨_,rfl⟩,.inl ?_⟩;rw[←HJE.out];exact HJ.out _ _ _ H2.out (Itk.put _ HK.out rfl (by omega))
  | some f =>
   rw[show FZ (some f)=(f:Int) from rfl] at cF
   obtain⟨iI,eZ,qh,rG⟩:=h1.end_some rfl;obtain⟨fn,tmps,assign,body,hy,hR⟩:=HY.out j iI W'.drew (HJ.out _ _ _ h2 (Itk.of_q (Q.drew _))) (by
    intro b hb;have h0:=aU hK;have h1:=aU h3;show b<W'.heap.size;omega)
   rw[eZ] at hy;dsimp only[RU] at hy;rw[show ak (s.drop f)=.string (({ data:=s.toArray }:ByteArray).extract f s.length) from by rw[iV]] at hy
   have Kn:=fun m=>(hR m).mono VY
   have HR:=Hd Kn;have HK:=Hd hK;clear hR Kn eZ hK h1 h2 h3 h4 h5 h6;gi_wp2_with fail;refine ag4 s l B W.heap.size (W.heap.size+1) f W' (YP J Jx j (fun k=>k=B∨(W.heap.size≤k∧k<W.heap.size+5)) n₀ W'.drew) rG hs cS cY cF hy HR _ _ _ _ _ _ _ _ _ _ _ _ _ _ _ _ _ _ _ _ _ _ _ _ _ _ _ _ _ _ _ _ _ _ _ _ _ _ _ _ _ _ _ ?_
   intro b w4 z39 z40 z41 z42 z43 gL;have gZ:Bk (fun k=>k=B∨(W.heap.size≤k∧k<W.heap.size+5)) n₀ W'.drew w4:=by
    cases b with
    | true=>exact(gL.1 rfl).2
    | false=>exact(gL.2 rfl).2
   have Eo:=(gZ.own (W.heap.size+3) (.inr ⟨by omega,by omega⟩) (aU HK.out)).trans HK.out
   have HK4:=Hd Eo;have HYP:=Hd gL;clear Eo gZ gL;gi_wp2_with fail;refine⟨by simp,.inl ⟨_,_,rfl,run_takeDeferred HK4.out,?_⟩⟩
   refine⟨_,results_none rfl _ _ _,⟨_,rfl⟩,?_⟩;cases b with
   | true =>
    left;have:=(HYP.out.1 rfl).1;rw[qh] at this;exact HJ.out _ _ _ this (Itk.put _ HK4.out rfl (by omega))
   | false =>
    right;exact⟨j+1,by omega,QE.out _ _ _ (HYP.out.2 rfl).1 (Itk.put _ HK4.out rfl (by omega))⟩
 case stop =>
  rintro D c k W' hD hk ⟨rfl,j,hj,hjx⟩ hK;have HK:=Hd hK;have HX:=Hd hjx;clear hK hjx;gi_wp2_with fail;refine⟨by simp,.inl ⟨_,_,rfl,run_takeDeferred HK.out,?_⟩⟩
  exact⟨_,results_none rfl _ _ _,⟨_,rfl⟩,.inr ⟨j,hj,QE.out _ _ _ HX.out (Itk.put _ HK.out rfl (by omega))⟩⟩
end
section
open Go.RowKit
theorem abx:stopsL=[[97],[97,110],[97,110,100],[97,114,101],[97,115],[97,116],[98,101],[98,121],[102,111,114],[105,110],[105,115],[105,116],[111,102],[111,110],[111,114],[116,104,101],[116,111],[119,105,116,104]]:=by decide
theorem Stop_any(t:Bytes)(w:World):
  Calls Tryz.prog 137 #[.string ⟨t.toArray⟩] w fun e w'=>e=.returned (.bool (xR t))∧w=w':=by
 by_cases hm:t∈stopsL
 ·have hs:xR t=true:=by unfold xR;simpa using hm
  rw[abx] at hm;simp only[List.mem_cons,List.not_mem_nil,or_false] at hm;have HS:=Hd hs;clear hs;rcases hm with rfl|rfl|rfl|rfl|rfl|rfl|rfl|rfl|rfl|rfl|rfl|rfl|rfl|rfl|rfl|rfl|rfl|rfl;all_goals
   go_enter Tryz.func137,Tryz.ntmps137;go_wp2;go_ret;exact⟨kS HS.out.symm,rfl⟩
 ·have hs:xR t=false:=by unfold xR;simpa using hm
  have HS:=Hd hs;clear hs;rw[abx] at hm;simp only[List.mem_cons,List.not_mem_nil,or_false,not_or] at hm;have hf:∀x:Bytes,t≠x→(t==x)=false:=fun x h=>by simpa using h
  obtain⟨m0,m1,m2,m3,m4,m5,m6,m7,m8,m9,m10,m11,m12,m13,m14,m15,m16,m17⟩:=hm;have e0:=hf _ m0;clear m0;have e1:=hf _ m1;clear m1;have e2:=hf _ m2;clear m2;have e3:=hf _ m3;clear m3;have e4:=hf _ m4;clear m4;have e5:=hf _ m5;clear m5;have e6:=hf _ m6;clear m6;have e7:=hf _ m7;clear m7;have e8:=hf _ m8;clear m8;have e9:=hf _ m9;clear m9;have e10:=hf _ m10;clear m10;have e11:=hf _ m11;clear m11;have e12:=hf _ m12;clear m12;have e13:=hf _ m13;clear m13;have e14:=hf _ m14;clear m14;have e15:=hf _ m15;clear m15;have e16:=hf _ m16;clear m16;have e17:=hf _ m17;clear m17;clear hf;go_enter Tryz.func137,Tryz.ntmps137;go_wp2;go_ret;exact⟨kS HS.out.symm,rfl⟩
end
section
open Go.RowKit
attribute [local go_sem] Oper.semAt_some
theorem aay{F:Fence}{n':Nat}{P:Program}(W:World){ops:Array Oper}{rest:List Oper}{o:Oper}{a:Act}{Q:Exit→Act→World→Prop}(uf:o.guard=none)(s x:Operand)(t:TypeId)
  (ho:o.op=.call { callee:=.builtin .append,args:=#[s,x],argTypes:=#[t,t] })
  (base:Nat) (e e':TypeId) (i:TypeInfo) (z:Value) (size bytes:Nat) (ht:P.underlying t=some (.slice e)) (hi:P.info? e=some i) (hz:i.zero=some z)
  (jA:i.size=size) (nH:i.bytes=bytes) (uU:z.cells.size=size) (aY:0<size) (Ef:0<bytes)
  (v:Value) (n:Nat) (xs:List Value) (hs:a.eval s=v) (aQ:W.ownsRow base e size v n xs)
  (m:Nat) (hm:0<m) (news:Array Value) (hx:a.eval x=.slice (some ⟨W.heap.size,0,none⟩) m m) (hl:news.size=m*size) (h1:∀u∈news.toList,u.oneCell'=true)
  (hb:(n+m)*bytes≤140737488355328) (fC:base≤W.heap.size)
  (h:∀g cap w',w'.ownsRow base e size (.slice (some ⟨g,0,none⟩) (n+m) cap) (n+m) (xs++news.toList)→W.grownBy w' v.ownBlock→(v.ownBlock=some g∨W.heap.size<g)→g<w'.heap.size→W.heap.size<w'.heap.size →
   wpListIn F n' P ops Q rest (a.put o.dst (.slice (some ⟨g,0,none⟩) (n+m) cap)) w'):wpListIn F n' P ops Q (o::rest) a (W.alloc (.cells news e')):=by
 obtain⟨g,cap,w',hr,h2,h3,h4,h5,h6⟩:=abw (P:=P) W t o.type base e e' i z size bytes ht hi hz jA nH uU aY Ef v n xs aQ m hm news hl h1 hb fC;refine wpListIn_plain uf fun _ hK=>?_
 unfold Oper.wpIn;refine⟨?_,?_⟩
 ·simp[Oper.about,ho,resolve,Target.leads,Sem.run_pure]
 ·rw[Oper.semAt_plain F _ _ (by rw[ho];intro c xG;cases xG)]
  unfold execOp;simp only[ho,resolve,invoke,builtin,Sem.run_bind,Sem.run_pure,Result.andThen_ok,List.map_toArray,List.map_cons,List.map_nil,hs,hx,hr];exact hK _ _ (h g cap w' h2 h3 h4 h5 h6)
theorem VZ(cs:List (Int×Bytes))(st:Option Bytes):(dJ cs st).flatten.length≤(st.getD []).length+(cs.flatMap (·.2)).length∧(dJ cs st).length≤cs.length+1:=by
 induction cs generalizing st with
 | nil=>cases st<;>simp[dJ]
 | cons c cs ih =>
  cases st with
  | none =>
   rw[dJ];split
   ·have:=ih (some c.2);simp at this ⊢;omega
   ·have:=ih none;simp at this ⊢;omega
  | some w =>
   rw[dJ];split
   ·have:=ih (some (w++c.2));simp at this ⊢;omega
   ·have:=ih none;simp at this ⊢;omega
theorem uJ(s:Bytes):(bT s).length≤s.length+1∧∀w∈bT s,w.length≤s.length:=by
 obtain⟨h1,h2⟩:=VZ (chunks s) none;have h3:=LG s.length s;have h4:=Pe s.length s (Nat.le_refl _);rw[show iK s.length s=chunks s from rfl] at h3 h4
 rw[h4] at h1;refine⟨by unfold bT;omega,fun w hw=>?_⟩
 have:w.length≤(bT s).flatten.length:=by
  generalize bT s=l at hw;induction l with
  | nil=>simp at hw
  | cons a l ih =>
   rw[List.flatten_cons,List.length_append];rcases List.mem_cons.1 hw with rfl|h
   ·omega
   ·have:=ih h;omega
 unfold bT at this;simp at h1 this;omega
theorem F5(s:Bytes):(bQ s).length≤4*s.length:=by
 have:=VW (chunks s);have h3:=LG s.length s;rw[show iK s.length s=chunks s from rfl] at h3
 unfold bQ;omega
def J8(w:Bytes)(k:Nat):List (Bytes×Nat):=if (bQ w).length≤40∧xR (bQ w)=false then [(bQ w,k)] else []
theorem aby(ws:List Bytes)(w:Bytes)(k:Nat):eY (ws++[w]) k=eY ws k++J8 w (k+ws.length):=by
 induction ws generalizing k with
 | nil=>simp[eY,J8]
 | cons a ws ih =>
  rw[List.cons_append,eY,eY,ih];rw[show k+1+ws.length=k+(a::ws).length by simp;omega]
  split<;>rfl
def pO(s:Bytes)(k:Nat):List (Bytes×Nat):=eY ((bT s).take k) 0
theorem V5(s:Bytes)(k:Nat)(h:k<(bT s).length):pO s (k+1)=pO s k++J8 (bT s)[k] k:=by
 unfold pO;rw[List.take_succ_eq_append_getElem h,aby,List.length_take,Nat.min_eq_left (by omega),Nat.zero_add]
theorem sK(ws:List Bytes)(k:Nat):(eY ws k).length≤ws.length:=by
 induction ws generalizing k with
 | nil=>simp[eY]
 | cons a ws ih=>rw[eY];have:=ih (k+1);split<;>simp<;>omega
theorem YX(s:Bytes)(k:Nat):(pO s k).length≤k:=by
 have:=sK ((bT s).take k) 0;rw[List.length_take] at this;unfold pO;omega
theorem kr:(Tryz.prog.info? 129).map (fun i=>(i.zero,i.size,i.bytes))=some (some (.agg #[ak [],.int .i64 0]),2,24):=by kernel_rfl
abbrev dF(l:List (Bytes×Nat)):List Value:=l.flatMap fun d=>[ak d.1,.int .i64 (d.2:Nat)]
theorem Pq(l:List (Bytes×Nat))(d:Bytes×Nat):dF (l++[d])=dF l++[ak d.1,.int .i64 (d.2:Nat)]:=by simp[dF]
def TokI(w:World)(s:Bytes)(k:Nat)(W:World):Prop :=
 (∃v,Boxed W w.heap.size 88 v∧W.ownsRow w.heap.size 129 2 v (pO s k).length (dF (pO s k))∧(∀g,v.ownBlock=some g→w.heap.size+10≤g))∧Boxed W (w.heap.size+1) 3 (.int .i64 (k:Nat))∧Below w.heap.size w W
theorem TokI.next{w A:World}{s:Bytes}{k:Nat}{v:Value}(h0:Boxed A w.heap.size 88 v)(ho:A.ownsRow w.heap.size 129 2 v (pO s (k+1)).length (dF (pO s (k+1))))(hg:∀g,v.ownBlock=some g→w.heap.size+10≤g)
  (h1:Boxed A (w.heap.size+1) 3 (.int .i64 (k:Nat))) (hb:Below w.heap.size w A):TokI w s (k+1) (A.setCell ⟨w.heap.size+1,0,none⟩ (.int .i64 ((k:Int)+1))):=by
 refine⟨⟨v,h0.kept (grownBy_setCell' A _ _) (by simp),ownsRow_setCell_other ho (fun e=>by have:=hg _ e;simp at this) _,hg⟩,?_,hb.setCell (by simp) _⟩
 have:=h1.set (.int .i64 ((k:Int)+1));simpa using this
theorem V6(s:Bytes)(w:World)(hs:s.length≤1000000000)(hT:Tabs w)(gG:Spans w):
  Calls Tryz.prog 91 #[.string ⟨s.toArray⟩] w fun e w'=>∃v,e=.returned v∧w'.ownsRow w.heap.size 129 2 v (aA s).length (dF (aA s))∧Q w w':=by
 obtain⟨i0,hi,fJ,eU,fD⟩:=info_parts kr;have Gz:=uJ s;refine(callsIn_wide (n:=0)).1 ?_;refine callsIn_of_wp_marks Tryz.func91 rfl trivial ?_ rfl;simp only[Tryz.ntmps91,List.size_toArray,List.length_cons,List.length_nil,Nat.reduceAdd,Nat.reduceSub,Array.replicate_succ,Array.replicate_zero,List.push_toArray,List.append_toArray,List.nil_append,List.cons_append];gi_wp2_with fail;refine⟨trivial,rfl,(callsIn_wide.2 (words_any s _)).mono ?_⟩;rintro e w1 ⟨rfl,rfl⟩;gi_wp2_with fail;have ZT:Below w.heap.size w (((w.alloc (.cells #[.slice none 0 0] 88)).alloc (.cells #[.int .i64 0] 3)).alloc (.cells #[ak s] 9)):=(((Below.refl _ w).alloc (Nat.le_refl _) _).alloc (by simp) _).alloc (by simp;omega) _
 have aY:(((w.alloc (.cells #[.slice none 0 0] 88)).alloc (.cells #[.int .i64 0] 3)).alloc (.cells #[ak s] 9)).heap.size=w.heap.size+3:=by simp
 have b0:Boxed (((w.alloc (.cells #[.slice none 0 0] 88)).alloc (.cells #[.int .i64 0] 3)).alloc (.cells #[ak s] 9)) w.heap.size 88 (.slice none 0 0):=((Boxed.new w _ _).alloc _).alloc _;have b1:Boxed (((w.alloc (.cells #[.slice none 0 0] 88)).alloc (.cells #[.int .i64 0] 3)).alloc (.cells #[ak s] 9)) (w.heap.size+1) 3 (.int .i64 0):=by
  have:=(Boxed.new (w.alloc (.cells #[.slice none 0 0] 88)) 3 (.int .i64 0)).alloc (.cells #[ak s] 9);simpa using this
 have b2:Boxed (((w.alloc (.cells #[.slice none 0 0] 88)).alloc (.cells #[.int .i64 0] 3)).alloc (.cells #[ak s] 9)) (w.heap.size+2) 9 (ak s):=by
  have:=Boxed.new ((w.alloc (.cells #[.slice none 0 0] 88)).alloc (.cells #[.int .i64 0] 3)) 9 (ak s);simpa using this
 have HT:=Hd hT;have nX:=Hd gG;clear hT gG;obtain⟨W0,ZU⟩:∃W0,((w.alloc (.cells #[.slice none 0 0] 88)).alloc (.cells #[.int .i64 0] 3)).alloc (.cells #[ak s] 9)=W0:=⟨_,rfl⟩;rw[ZU] at ZT aY b0 b1 b2 ⊢;clear ZU;refine UA (gf:=170) (lb:=#[.pointer (some ⟨w.heap.size+1+1,0,none⟩)]) rfl (enters_of Tryz.func170 (by kernel_rfl) rfl) (encs:=RU) (own:=fun k=>k=w.heap.size+6) (keep:=fun k=>k=w.heap.size+2∨(w.heap.size+5≤k∧k<w.heap.size+10)) (n₀:=w.heap.size) (xs:=bT s)
  (fun W1 hq hz=>by
   have h:=words_seq s (w.heap.size+2) w.heap.size W1 (by omega) (aB hq b2) (by omega) (fun W' hb=>⟨HT.out.stays ((ZT.trans (Below.mono hq (by omega))).trans hb),nX.out.stays ((ZT.trans (Below.mono hq (by omega))).trans hb)⟩)
   rw[hz,aY] at h;exact h)
  (fun k h=>by omega) (fun k h=>by omega) (by omega) (fun _=>rfl)
  (fun k W=>TokI w s k W)
  (fun _ _ _=>False)
  (fun k a' _=>∃(x:Bytes),(bT s)[k]?=some x∧a'={ tmps:=#[.string ⟨s.toArray⟩,undef,.slice none 0 0,.pointer (some ⟨w.heap.size,0,none⟩),.pointer (some ⟨w.heap.size+1,0,none⟩),ak x,undef,.string ⟨s.toArray⟩,.func (.func 170) #[] #[.pointer (some ⟨w.heap.size+1+1,0,none⟩)],ak x,undef,undef,undef,undef,undef,undef,undef,undef,undef,undef,undef,undef,undef,undef,undef,undef,undef,undef,undef],defers:=[] })
  (fun k A B hI hi=>by
   obtain⟨⟨v,h0,ho,hg⟩,h1,hb⟩:=hI;exact⟨⟨v,hi.boxed h0 (by omega),hi.owns ho (fun g e=>by have:=hg g e;omega),hg⟩,hi.boxed h1 (by omega),hi.below hb (by omega) hb.size (fun k h=>by omega)⟩)
  (fun _ _ _ _ h _=>h) (fun _ _ _ _ h _=>h) ⟨⟨_,b0,World.ownsRow_nil _ _ _ _,by simp[Value.ownBlock]⟩,b1,ZT⟩ ?assign ?body ?done ?stop
 case assign =>
  intro l k hk W K hi hz hK;gi_wp2;exact hK _ _ (Q.refl _) hi ⟨_,List.getElem?_eq_getElem hk,rfl⟩
 case body =>
  rintro l k hk a' W ⟨⟨rc,Nl⟩,Dt⟩ hl ⟨⟨v,h0,ho,hg⟩,h1,hb⟩ ⟨x,hx,rfl⟩ Ih hz;have qE:(bT s)[k]=x:=Option.some.inj ((List.getElem?_eq_getElem hk).symm.trans hx);have rE:x.length≤s.length:=by rw[←qE];exact Gz.2 _ (List.getElem_mem _)
  have rG:=F5 x;have aI:=V5 s k hk;rw[qE] at aI;have vg:=YX s k;have Xn:=hb.size;have axR:w.heap.size+10≤W.heap.size:=by have:=Ih (w.heap.size+9) (.inr (by omega));omega
  have xH:=Gz.1;subst hl;have cf:=VX x W (by omega) (HT.out.stays hb)
  have CF:=Hd cf;have bJ:=Hd aI;have H0:=Hd h0;have HO:=Hd ho;have KS:=Hd hg;have H1:=Hd h1;have HB:=Hd hb;clear cf aI h0 ho hg h1 hb hx qE Dt Nl;gi_wp2_with fail;refine⟨trivial,rfl,(nZ _ CF.out).mono ?_⟩;rintro e w3 ⟨rfl,q3⟩;have b03:Boxed w3 w.heap.size 88 v:=aB q3 H0.out;have b13:Boxed w3 (w.heap.size+1) 3 (.int .i64 (k:Nat)):=aB q3 H1.out;have o3:=ownsRow_below HO.out q3;have jJ:=HB.out.trans (Below.mono q3 Xn);have kk:Bk (fun b=>(b=w.heap.size+2∨(w.heap.size+5≤b∧b<w.heap.size+10))∨b=W0.heap.size∨b=W0.heap.size+1) w.heap.size W w3:=Bk.of_q q3 Xn
  have Oq:=q3.size;have cst:=Stop_any (bQ x) w3;have Sk:=Hd cst;have B0:=Hd b03;have B1:=Hd b13;have O3:=Hd o3;have iZ:=Hd jJ;have KK:=Hd kk;clear cst b03 b13 o3 jJ kk q3 CF H0 H1 HO HB;by_cases hf:(bQ x).length≤40∧xR (bQ x)=false
  ·have gU:J8 x k=[(bQ x,k)]:=by unfold J8;rw[if_pos hf]
   have qV:=Hd gU;clear gU;obtain⟨hf1,Sn⟩:=hf;rw[Sn] at Sk;generalize bQ x=t at *;have c0:=B0.out.cell;have c1:=B1.out.cell;have f1:=B1.out.frozen;gi_wp2_with fail;refine⟨trivial,rfl,(nZ _ Sk.out).mono ?_⟩;rintro e w4 ⟨rfl,rfl⟩;have fC:w.heap.size≤w3.heap.size:=by omega
   gi_wp2_with (gi_at_builtin;go_must (refine aay w3 (by rfl) _ _ 88 (by rfl) w.heap.size 129 _ i0 (.agg #[ak [],.int .i64 0]) 2 24 Tryz.underlying88 hi fJ eU fD rfl (by decide) (by decide) _ _ _ (by rfl) O3.out 1 (by decide) #[ak t,.int .i64 (k:Nat)] (by rfl) rfl ?c1 ?c2 fC ?_))
   case c1=>simp[Value.oneCell']
   case c2=>omega
   intro g cp w4 vS xI lN axS Yx;have Ij:some w.heap.size≠v.ownBlock:=B0.out.not_row (by decide) O3.out
   have qC:some (w.heap.size+1)≠v.ownBlock:=B1.out.not_row (by decide) O3.out
   have MZ:w.heap.size+10≤g:=by
    rcases lN with h|h
    ·exact KS.out g h
    ·omega
   have b04:Boxed w4 w.heap.size 88 v:=B0.out.kept xI Ij;have b14:Boxed w4 (w.heap.size+1) 3 (.int .i64 (k:Nat)):=B1.out.kept xI qC;have gZ:=iZ.out.grown xI fC (fun j hj=>by have:=KS.out j hj;omega)
   have kk4:Bk (fun b=>(b=w.heap.size+2∨(w.heap.size+5≤b∧b<w.heap.size+10))∨b=W0.heap.size∨b=W0.heap.size+1) w.heap.size W w4 :=
    KK.out.trans (Bk.grown xI fC (fun j hj=>by
     have:=KS.out j hj;obtain⟨cs,tN⟩:=jE O3.out j hj;exact⟨by omega,by omega,cs,_,_,tN⟩))
   have FN:(pO s k).length+1=(pO s (k+1)).length∧dF (pO s k)++(#[ak t,.int .i64 (k:Nat)]:Array Value).toList=dF (pO s (k+1)):=by
    rw[bJ.out,qV.out];exact⟨by simp,(Pq (pO s k) (t,k)).symm⟩
   rw[FN.1,FN.2] at vS;have axA:=FN.1;have B04:=Hd b04;have B14:=Hd b14;have O4:=Hd vS;have lQ:=Hd gZ;have KK4:=Hd kk4;have c04:=b04.cell;have f04:=b04.frozen;have c14:=b14.cell;have f14:=b14.frozen;clear b04 b14 vS gZ kk4 FN xI lN c0 c1;gi_wp2_with fail;refine⟨KK4.out.trans ((Bk.setCell _ (by simp) (by simp;omega) _).trans (Bk.setCell _ (by simp) (by simp;omega) _)),TokI.next (v:=.slice (some ⟨g,0,none⟩) (pO s (k+1)).length cp) (B04.out.set _) (ownsRow_setCell_other O4.out (by simp[Value.ownBlock];omega) _) (fun j e=>by simp[Value.ownBlock] at e;omega) (B14.out.kept (grownBy_setCell' w4 _ _) (by simp)) (lQ.out.setCell (by simp) _)⟩
  ·have gU:J8 x k=[]:=by unfold J8;rw[if_neg hf]
   have qV:=Hd gU;clear gU;by_cases hf1:(bQ x).length≤40
   ·have Sn:xR (bQ x)=true:=by simpa[hf1] using hf
    rw[Sn] at Sk;clear hf Sn;generalize bQ x=t at *;gi_wp2_with fail;refine⟨trivial,rfl,(nZ _ Sk.out).mono ?_⟩;rintro e w4 ⟨rfl,rfl⟩;have c1:=B1.out.cell;have f1:=B1.out.frozen;gi_wp2_with fail;refine⟨KK.out.trans (Bk.setCell _ (by simp) (by simp;omega) _),TokI.next B0.out (by rw[bJ.out,qV.out,List.append_nil];exact O3.out) KS.out B1.out iZ.out⟩
   ·generalize bQ x=t at *
    have hf3:decide ((t.length:Int)≤40)=false:=by simp;omega
    clear hf hf1;have c1:=B1.out.cell;have f1:=B1.out.frozen;gi_wp2_with fail;refine⟨trivial,?_⟩;gi_wp2_with fail;refine⟨KK.out.trans (Bk.setCell _ (by simp) (by simp;omega) _),TokI.next B0.out (by rw[bJ.out,qV.out,List.append_nil];exact O3.out) KS.out B1.out iZ.out⟩
 case done =>
  rintro D W hD _ ⟨⟨v,h0,ho,hg⟩,h1,hb⟩ hK;obtain rfl:D=w.heap.size+3:=by omega
  rw[show pO s (bT s).length=aA s by unfold pO aA;rw[List.take_length]] at ho
  have c0:=h0.cell;have HO:=Hd ho;have HK:=Hd hK;have HB:=Hd hb;clear ho hK hb h1 h0 hD;gi_wp2_with fail;refine⟨by simp,.inl ⟨_,_,rfl,run_takeDeferred HK.out,?_⟩⟩
  exact⟨_,results_tmp rfl _ _ _,v,rfl,ownsRow_putObj HO.out _ HK.out rfl,HB.out.trans (Bk.put (own:=fun _=>False) (n₀:=w.heap.size) _ HK.out rfl (by omega) (fun h=>h)).below⟩
 case stop =>
  rintro D c k W _ _ h _;exact h.elim
end
section
open Go.RowKit
theorem ag5(a n b:Int)(w:World):
  Calls Tryz.prog 207 #[.int .i64 a,.int .i64 n,.int .i64 b] w fun e w'=>e=.returned (.bool (decide (a<n)&&decide (n<b)))∧w=w':=by
 by_cases h1:a<n
 ·by_cases h2:n<b
  ·go_enter Tryz.func207,Tryz.ntmps207
   go_wp2;go_ret;exact⟨kS (by simp[h1,h2]),rfl⟩
  ·go_enter Tryz.func207,Tryz.ntmps207
   go_wp2;go_ret;exact⟨kS (by simp[h1,h2]),rfl⟩
 ·go_enter Tryz.func207,Tryz.ntmps207
  go_wp2;go_ret;exact⟨kS (by rw[decide_eq_false (by omega)];rfl),rfl⟩
abbrev kH(l:List Int):List Value:=l.map fun k=>.int .i64 k
def Ints(w:World)(v:Value)(l:List Int):Prop:=Sl w v l.length 1 (kH l)
theorem Ints.stays{w w':World}{v:Value}{l:List Int}(h:Ints w v l)(hb:Below w.heap.size w w'):Ints w' v l:=Sl.stays h hb
theorem Ints.value{w:World}{v:Value}{l:List Int}(h:Ints w v l):∃a cap,v=.slice a l.length cap∧(0<l.length→∃b off,a=some ⟨b,off,none⟩∧∀j (hj:j<l.length),w.cell? ⟨b,off+j,none⟩=some (.int .i64 l[j])):=by
 obtain⟨_,a,cap,h2,h3⟩:=h;refine⟨a,cap,h2,fun hn=>?_⟩
 obtain⟨b,off,h4,h5⟩:=h3 hn;exact⟨b,off,h4,fun j hj=>h5 j _ (by simp[hj])⟩
abbrev aR:=Int×Value×List Int
abbrev postOf(p:aR):aZ:=(p.1,p.2.2)
abbrev fH(l:List aR):List Value:=l.flatMap fun p=>[.int .i64 p.1,p.2.1]
def Posts(w:World)(v:Value)(l:List aR):Prop:=Sl w v l.length 2 (fH l)∧∀p∈l,Ints w p.2.1 p.2.2
theorem Posts.stays{w w':World}{v:Value}{l:List aR}(h:Posts w v l)(hb:Below w.heap.size w w'):Posts w' v l:=⟨Sl.stays h.1 hb,fun p hp=>(h.2 p hp).stays hb⟩
theorem J9(l:List aR)(k:Nat)(h:k<l.length):(fH l)[k*2]?=some (.int .i64 l[k].1)∧(fH l)[k*2+1]?=some l[k].2.1:=by
 induction l generalizing k with
 | nil=>simp at h
 | cons d l ih =>
  have e:fH (d::l)=.int .i64 d.1::d.2.1::fH l:=by simp[fH]
  cases k with
  | zero=>rw[e];exact⟨rfl,rfl⟩
  | succ k =>
   have:=ih k (by simpa using h)
   rw[e,show(k+1)*2=k*2+1+1 by omega]
   exact this
theorem Posts.value{w:World}{v:Value}{l:List aR}(h:Posts w v l):∃a cap,v=.slice a l.length cap∧(0<l.length→∃b off,a=some ⟨b,off,none⟩∧∀j (hj:j<l.length),w.cell? ⟨b,off+j*2,none⟩=some (.int .i64 l[j].1)∧w.cell? ⟨b,off+j*2+1,none⟩=some l[j].2.1):=by
 obtain⟨⟨_,a,cap,h2,h3⟩,_⟩:=h;refine⟨a,cap,h2,fun hn=>?_⟩
 obtain⟨b,off,h4,h5⟩:=h3 hn;exact⟨b,off,h4,fun j hj=>⟨h5 _ _ (J9 l j hj).1,by rw[Nat.add_assoc];exact h5 _ _ (J9 l j hj).2⟩⟩
abbrev aK(l:List aR):List aZ:=l.map postOf
theorem V7(v:Value)(l:List aR)(w:World)(hv:Posts w v l)(hn:l.length≤1000000000000)(hl:∀p∈l,p.2.2.length≤1000000000000):
  Calls Tryz.prog 183 #[v] w fun e w'=>e=.returned (.bool (aV (-1) (aK l)))∧Q w w':=by
 obtain⟨a,cap,rfl,aJ⟩:=hv.value;have qF:=hv.2;have HC:=Hd aJ;have JB:=Hd qF;have HL:=Hd hl;clear aJ hv qF hl;have c:=ag5;have C:=Hd c;clear c;go_enter Tryz.func183,Tryz.ntmps183;go_wp2_with fail;go_loopw [3,11] (fun ls i wr=>∃(k:Nat) (last:Int),k≤l.length∧i=.int .i64 k∧ls=.int .i64 last∧Hid (aV (-1) (aK l)=aV last (aK (l.drop k)))∧Hid (Q w wr)) (fun _ i _=>l.length-(intOf i).toNat)
 case atStart=>exact⟨0,-1,by omega,rfl,rfl,rfl,Q.refl w⟩
 case round =>
  obtain⟨k,last,hk,rfl,rfl,HE,HQ⟩:=hrel;by_cases hlt:k<l.length
  ·obtain⟨b,off,rfl,hc⟩:=HC.out (by omega)
   obtain⟨gX,dM⟩:=hc k hlt;have lJ:=ah HQ.out gX;have nV:=ah HQ.out dM;have U9:=JB.out _ (List.getElem_mem hlt);have aD:=HL.out _ (List.getElem_mem hlt);have bV:aV last (aK (l.drop k))=(decide (last<l[k].1)&&decide (l[k].1<500) && !l[k].2.2.isEmpty&&gW (-1) l[k].2.2 2000&&aV l[k].1 (aK (l.drop (k+1)))):=by
    rw[List.drop_eq_getElem_cons hlt];rfl
   clear hc gX dM;generalize l[k]=p at *;obtain⟨d,pv,ps⟩:=p;simp only at lJ nV U9 aD bV;obtain⟨pa,jc,rfl,sQ⟩:=U9.value;have HS:=Hd bV;have BQ:=Hd sQ;clear bV U9 sQ;obtain⟨wo,rfl⟩:∃wo:World,wo=wr:=⟨_,rfl⟩;go_wp2_with fail;refine(C.out _ _ _ _).mono ?_;rintro e w1 ⟨rfl,rfl⟩;cases hr:(decide (last<d)&&decide (d<500)) with
   | false =>
    have kU:aV (-1) (aK l)=false:=by rw[HE.out,HS.out,hr];rfl
    have HR:=Hd kU;clear hr kU;go_wp2_with fail;go_ret;exact⟨kS HR.out.symm,HQ.out.trans (Q.alloc _ _)⟩
   | true =>
    have Sq:=Hd hr;clear hr;by_cases h0:ps.length=0
    ·have kU:aV (-1) (aK l)=false:=by
      have:ps=[]:=List.eq_nil_of_length_eq_zero h0;rw[HE.out,HS.out,Sq.out,this];rfl
     have HR:=Hd kU;clear kU;have hz:((ps.length:Int)==0)=true:=by rw[h0];rfl
     clear h0;go_wp2_with fail;go_ret;exact⟨kS HR.out.symm,HQ.out.trans (Q.alloc _ _)⟩
    ·have hz:((ps.length:Int)==0)=false:=by simpa using h0
     have aF:(!ps.isEmpty)=true:=by cases ps<;>simp_all
     have uZ:=Hd aF;have H0:=Hd h0;clear aF h0;go_wp2_with fail;go_loopw [6,31] (fun at_ i wr=>∃(j:Nat) (x:Int),j≤ps.length∧i=.int .i64 j∧at_=.int .i64 x∧Hid (gW (-1) ps 2000=gW x (ps.drop j) 2000)∧Hid (Q w wr)) (fun _ i _=>ps.length-(intOf i).toNat)
     case atStart=>exact⟨0,-1,by omega,rfl,rfl,rfl,HQ.out.trans (Q.alloc _ _)⟩
     case round =>
      obtain⟨j,x,hj,rfl,rfl,HJ,aS⟩:=hrel;by_cases iI:j<ps.length
      ·obtain⟨b2,off2,rfl,dM⟩:=BQ.out (by omega)
       have Io:=ah aS.out ((dM j iI));have aI:gW x (ps.drop j) 2000=(decide (x<ps[j])&&decide (ps[j]<2000)&&gW ps[j] (ps.drop (j+1)) 2000):=by
        rw[List.drop_eq_getElem_cons iI];rfl
       clear dM;generalize ps[j]=y at *;have bJ:=Hd aI;clear aI;go_wp2_with fail;refine(C.out _ _ _ _).mono ?_;rintro e w1 ⟨rfl,rfl⟩;cases jG:(decide (x<y)&&decide (y<2000)) with
       | false =>
        have kU:aV (-1) (aK l)=false:=by rw[HE.out,HS.out,HJ.out,bJ.out,jG];simp
        have HR:=Hd kU;clear jG kU;go_wp2_with fail;go_ret;exact⟨kS HR.out.symm,aS.out⟩
       | true =>
        have BK:=Hd jG;clear jG;go_wp2_with fail;go_roundw;case rel=>exact⟨j+1,y,by omega,by go_num,rfl,by show _=_;rw[HJ.out,bJ.out,BK.out];rfl,aS.out⟩
        case measure=>simp[intOf];omega
      ·have vW:gW (-1) ps 2000=true:=by rw[HJ.out,List.drop_eq_nil_of_le (by omega)];rfl
       have vB:=Hd vW;clear vW;go_wp2_with fail;go_roundw;case rel=>exact⟨k+1,d,by omega,by go_num,rfl,by show _=_;rw[HE.out,HS.out,Sq.out,uZ.out,vB.out];rfl,aS.out⟩
       case measure=>simp[intOf];omega
  ·have he:aV (-1) (aK l)=true:=by rw[HE.out,List.drop_eq_nil_of_le (by omega)];rfl
   have RA:=Hd he;clear he;go_wp2_with fail;go_ret;exact⟨kS RA.out.symm,HQ.out⟩
theorem YZ(l:List Int)(at_:Int)(k:Nat)(h:k<l.length):kG at_ (l.take (k+1))=kG at_ (l.take k)++[(l[k]-(if k=0 then at_ else l.getD (k-1) 0)).toNat]:=by
 induction l generalizing at_ k with
 | nil=>simp at h
 | cons x l ih =>
  cases k with
  | zero=>simp[kG]
  | succ k =>
   have:=ih x k (by simpa using h)
   simp only[List.take_succ_cons,kG,this,List.cons_append,List.getElem_cons_succ];cases k with
   | zero=>simp
   | succ k=>simp
theorem Tz(l:List Int)(a:Int):(kG a l).length=l.length:=by
 induction l generalizing a with
 | nil=>rfl
 | cons x l ih=>simp[kG,ih]
theorem pQ:(Tryz.prog.info? 144).map (fun i=>(i.zero,i.size,i.bytes))=some (some (.int .u64 0),1,8):=by kernel_rfl
def Rises:Int→List Int→Prop
 | _,[]=>True
 | a,x::l=>a<x∧x<2000∧Rises x l
theorem UG(a:Int)(l:List Int)(h:gW a l 2000=true):Rises a l:=by
 induction l generalizing a with
 | nil=>trivial
 | cons x l ih =>
  simp only[gW,Bool.and_eq_true,decide_eq_true_eq] at h;exact⟨h.1.1,h.1.2,ih x h.2⟩
theorem Rises.at_(a:Int)(l:List Int)(h:Rises a l)(k:Nat)(hk:k<l.length):(if k=0 then a else l.getD (k-1) 0)<l[k]∧l[k]<2000∧a≤(if k=0 then a else l.getD (k-1) 0):=by
 induction l generalizing a k with
 | nil=>simp at hk
 | cons x l ih =>
  cases k with
  | zero=>exact⟨by simpa using h.1,h.2.1,by simp⟩
  | succ k =>
   have:=ih x h.2.2 k (by simpa using hk)
   have hx:=h.1;cases k with
   | zero=>simp at this ⊢;exact⟨this.1,this.2,by omega⟩
   | succ k=>simp at this ⊢;exact⟨this.1,this.2.1,by omega⟩
abbrev DX(ns:List Nat):List Value:=ns.map fun n:Nat=>.int .u64 (n:Int)
def iy(d last:Int)(ps:List Int)(k:Nat):List Nat:=(d-last).toNat::ps.length::kG (-1) (ps.take k)
theorem gaps_lt(l:List Int)(a:Int)(h:Rises a l)(ha : -1≤a):∀n∈kG a l,n<18446744073709551616:=by
 induction l generalizing a with
 | nil=>intro n hn;simp[kG] at hn
 | cons x l ih =>
  obtain⟨h1,h2,h3⟩:=h;intro n hn;simp only[kG,List.mem_cons] at hn;rcases hn with hn|hn
  ·omega
  ·exact ih x h3 (by omega) n hn
theorem abA(W:World)(base:Nat)(e:TypeId)(cs:Array Value)(n:Nat)(hn:cs.size=n)(hb:base≤W.heap.size)(hm:n≤maxLen):(W.alloc (.cells cs e)).ownsRow base e 1 (.slice (some ⟨W.heap.size,0,none⟩) n n) n cs.toList :=
 ⟨by simpa using hn,.inr ⟨W.heap.size,n,cs,rfl,hb,heap_alloc_new W _,Nat.le_refl _,hm,by omega,by rw[List.take_of_length_le];simp;omega⟩⟩
theorem mq(d last:Int)(pv:Value)(ps:List Int)(w:World)(hv:Ints w pv ps)(hd:last<d)(h1 : -1≤last)(h2:d<500)(hr:Rises (-1) ps)(hn:ps.length≤1000000):
  Calls Tryz.prog 185 #[.agg #[.int .i64 d,pv],.int .i64 last] w fun e w'=>e=.returned (.string ⟨(qM (d,ps) last).toArray⟩)∧Q w w':=by
 obtain⟨a,cap,rfl,aJ⟩:=hv.value;have HC:=Hd aJ;have HR:=Hd hr;clear aJ hv hr;obtain⟨i0,hi,fJ,eU,fD⟩:=info_parts pQ;go_enter Tryz.func185,Tryz.ntmps185;have as9:((d-last).toNat:Int)=d-last:=by omega
 go_wp2_with fail;go_loopw [5,6,22] (fun lv at_ i wr=>∃(k:Nat) (x:Int),k≤ps.length∧i=.int .i64 k∧at_=.int .i64 x∧Hid (x=if k=0 then -1 else ps.getD (k-1) 0) ∧
   Hid (wr.ownsRow w.heap.size 144 1 lv (iy d last ps k).length (DX (iy d last ps k)))∧Hid (Below w.heap.size w wr)) (fun _ _ i _=>ps.length-(intOf i).toNat)
 case atStart =>
  refine⟨0,-1,by omega,rfl,rfl,rfl,?_,((Below.refl _ _).alloc (Nat.le_refl _) _).alloc (by simp) _⟩
  have:=abA (w.alloc (.cells #[.int .i64 d,.slice a ps.length cap] 201)) w.heap.size 144 #[.int .u64 (d-last),.int .u64 ps.length] 2 rfl (by simp) (by decide)
  have e:DX (iy d last ps 0)=[.int .u64 (d-last),.int .u64 ps.length]:=by simp[iy,kG,DX,as9]
  show World.ownsRow _ _ _ _ _ _ _;have e0:(iy d last ps 0).length=2:=by simp[iy,kG]
  rw[e,e0];simpa using this
 case round =>
  obtain⟨k,x,hk,rfl,rfl,HX,HO,HB⟩:=hrel;obtain⟨wo,rfl⟩:∃wo:World,wo=wr:=⟨_,rfl⟩;have vk:(iy d last ps k).length=k+2:=by simp[iy,Tz];omega
  by_cases hlt:k<ps.length
  ·obtain⟨b,off,rfl,hc⟩:=HC.out (by omega)
   have hw:=ah HB.out (hc k hlt);obtain⟨q1,q2,q3⟩:=Rises.at_ _ _ HR.out k hlt;rw[←HX.out] at q1 q3;have aI:iy d last ps (k+1)=iy d last ps k++[(ps[k]-x).toNat]:=by
    unfold iy;rw[YZ ps (-1) k hlt,HX.out];rfl
   have Xo:ps[k]=if k+1=0 then -1 else ps.getD (k+1-1) 0:=by
    rw[if_neg (by omega),List.getD_eq_getElem?_getD,show k+1-1=k by omega,List.getElem?_eq_getElem hlt];rfl
   clear hc;generalize ps[k]=y at *;have hyn:((y-x).toNat:Int)=y-x:=by omega
   have e:DX (iy d last ps k)++(#[.int .u64 (y-x)]:Array Value).toList=DX (iy d last ps (k+1)):=by rw[aI];simp[DX,hyn]
   have el:(iy d last ps k).length+1=(iy d last ps (k+1)).length:=by rw[aI];simp
   have bJ:=Hd aI;have HN:=Hd Xo;have E:=Hd e;have EL:=Hd el;have Ii:=Hd vk;have aQ:=HO.out;have aY:=HB.out.size;have sO:((iy d last ps k).length+1)*8≤140737488355328:=by omega
   clear aI Xo hyn e el vk;go_wp2_with (at_builtin;go_must (refine cZ wo (by rfl) _ _ 249 (by rfl) w.heap.size 144 _ i0 (.int .u64 0) 1 8 Tryz.underlying249 hi fJ eU fD rfl (by decide) (by decide) _ _ _ (by rfl) aQ #[.int .u64 (y-x)] (by rfl) rfl ?c1 ?c2 aY ?_))
   case c1=>simp[Value.oneCell']
   try (case c2=>exact sO)
   intro g cp w4 nS oO lN FI l9;have dS:=HB.out.grown oO HB.out.size (fun k hk=>by have:=(aQ.lt k hk).1;omega)
   rw[E.out,EL.out] at nS;clear aQ lN oO;have jT:=Hd dS;have jH:=Hd nS;clear dS nS;go_wp2_with fail;go_roundw;case rel=>exact⟨k+1,y,by omega,by go_num,rfl,HN.out,by rw[EL.out];exact jH,jT⟩
   case measure=>simp[intOf];omega
  ·have jL:k=ps.length:=by omega
   subst jL;have ef:qM (d,ps) last=dQ (iy d last ps ps.length):=by unfold iy;rw[List.take_length];rfl
   have c:=Ai _ (iy d last ps ps.length) wo (Sl.of_owns HO.out) (by omega) (by
    intro n hn;unfold iy at hn;simp only[List.mem_cons] at hn;rcases hn with hn|hn|hn
    ·omega
    ·omega
    ·have:=gaps_lt ps (-1) HR.out (by omega) n (by rw[List.take_length] at hn;exact hn);omega)
   have C:=Hd c;have EF:=Hd ef;clear c ef vk;go_wp2_with fail;refine C.out.mono ?_;rintro e w3 ⟨rfl,q3⟩;have bZ:=Hd q3;clear q3;go_wp2_with fail;go_ret;exact⟨ret_str EF.out.symm,HB.out.trans (bZ.out.mono HB.out.size)⟩
theorem grown_of{w V wa:World}{row:Option Nat}(q:Q w V)(h:V.grownBy wa row):w.grownBy wa row :=
 { os:=h.os.trans q.os,tape:=h.tape.trans q.tape,output:=h.output.trans q.output,size:=Nat.le_trans q.size h.size,block:=fun k hk hr=>(h.block k (Nat.lt_of_lt_of_le hk q.size) hr).trans (q.block k hk) }
theorem bF{w:World}{base:Nat}{e:TypeId}{size:Nat}{v:Value}{n:Nat}{xs:List Value}(o:Obj)(h:w.ownsRow base e size v n xs):(w.alloc o).ownsRow base e size v n xs:=h.alloc _
theorem aX{w:World}{base:Nat}{e:TypeId}{size:Nat}{v:Value}{n:Nat}{xs:List Value}(h:w.ownsRow base e size v n xs):w.drew.ownsRow base e size v n xs:=h
theorem frozen_far{w wa:World}{row:Option Nat}(hg:w.grownBy wa row){a:Addr}(hl:a.block<w.heap.size)(aF:row≠some a.block):wa.frozen? a=w.frozen? a:=by
 have:=hg.block a.block hl (fun e=>aF e.symm)
 simp[World.frozen?,this]
theorem Pv{w w':World}(q:Q w w'){a:Addr}(hl:a.block<w.heap.size):w'.frozen? a=w.frozen? a:=by
 have:=q.block a.block hl;simp[World.frozen?,this]
theorem abB(w:World):w.drew.heap.size=w.heap.size:=rfl
noncomputable def idxRow:Code:=((Tryz.f121.body.bind (iw 12)).getD .skip)
theorem tinfo3:(Tryz.prog.info? 3).map (fun i=>(i.zero,i.size,i.bytes))=some (some (.int .i64 0),1,8):=by kernel_rfl
theorem Yj(base g off X:Nat)(q:Int)(v:Value)(ps:List Int)(w:World)(cL:w.cell? ⟨g,off+1,none⟩=some v)(cF:w.frozen? ⟨g,off+1,none⟩=false)(cX:w.cell? ⟨X,1,none⟩=some (.int .i64 q))
  (aQ:w.ownsRow base 3 1 v ps.length (kH ps)) (hb:base≤w.heap.size) (aD:ps.length≤1000000000) (Ui:v.ownBlock≠some g)
  (Qx:Exit→Act→World→Prop) (x0 x1 x2 x3 x4 x5 x6 x8 x10 x11 x12 x13 x14 x15 x16 x17 x18 x19 x20 x21 x22 x23 x24 x25 x26 x27 x28 x29 x30 x31 x32 x33 x34 x35 x36 x37 x38 x39 x40 x41 x42 x43 x44 x45 x46 x47 x48 x49 x50 x51 x52 x53 x54 x55 x56 x57 x58 x59 x60 x61 x62 x63 x64 x65 x66 x67 x68 x69 x70 x71 x72 x73 x74 x75 x76 x77 x78 x79 x80 x81 x82 x83 x84 x85 x86 x87 x88 x89 x90 x91 x92 x93 x94 x95 x96 x97 x98 x99 x100 x101 x102 x103 x104 x105:Value)
  (hQ:∀wa g2 cap z61 z62 z63 z64 z65 z66 z67 z68 z69 z70 z71,wa.ownsRow base 3 1 (.slice (some ⟨g2,0,none⟩) (ps.length+1) cap) (ps.length+1) (kH (ps++[q]))→w.grownBy wa v.ownBlock→(v.ownBlock=some g2∨w.heap.size<g2)→g2<wa.heap.size →
   Qx .normal ⟨#[x0,x1,x2,x3,x4,x5,x6,.pointer (some ⟨X,0,none⟩),x8,.pointer (some ⟨g,off,none⟩),x10,x11,x12,x13,x14,x15,x16,x17,x18,x19,x20,x21,x22,x23,x24,x25,x26,x27,x28,x29,x30,x31,x32,x33,x34,x35,x36,x37,x38,x39,x40,x41,x42,x43,x44,x45,x46,x47,x48,x49,x50,x51,x52,x53,x54,x55,x56,x57,x58,x59,x60,z61,z62,z63,z64,z65,z66,z67,z68,z69,z70,z71,x72,x73,x74,x75,x76,x77,x78,x79,x80,x81,x82,x83,x84,x85,x86,x87,x88,x89,x90,x91,x92,x93,x94,x95,x96,x97,x98,x99,x100,x101,x102,x103,x104,x105],[]⟩ (wa.setCell ⟨g,off+1,none⟩ (.slice (some ⟨g2,0,none⟩) (ps.length+1) cap))) :
  idxRow.wp Tryz.prog Qx ⟨#[x0,x1,x2,x3,x4,x5,x6,.pointer (some ⟨X,0,none⟩),x8,.pointer (some ⟨g,off,none⟩),x10,x11,x12,x13,x14,x15,x16,x17,x18,x19,x20,x21,x22,x23,x24,x25,x26,x27,x28,x29,x30,x31,x32,x33,x34,x35,x36,x37,x38,x39,x40,x41,x42,x43,x44,x45,x46,x47,x48,x49,x50,x51,x52,x53,x54,x55,x56,x57,x58,x59,x60,x61,x62,x63,x64,x65,x66,x67,x68,x69,x70,x71,x72,x73,x74,x75,x76,x77,x78,x79,x80,x81,x82,x83,x84,x85,x86,x87,x88,x89,x90,x91,x92,x93,x94,x95,x96,x97,x98,x99,x100,x101,x102,x103,x104,x105],[]⟩ w:=by
 obtain⟨i0,hi,fJ,eU,fD⟩:=info_parts tinfo3;conv=>arg 2;whnf
 have pz:Tryz.prog.follows .mixedOrders=true:=by kernel_rfl
 have zq:=Hd hQ;clear hQ;have HO:=Hd aQ;clear aQ;have AA:g<w.heap.size:=cK cL;have hXl:X<w.heap.size:=cK cX;have hB1:(ps.length+1)*8≤140737488355328:=by omega
 have Cv:ps.length+1≤maxLen:=by unfold maxLen;omega
 have jM:∀u∈[Value.int .i64 q],u.oneCell'=true:=by simp[Value.oneCell']
 have aO:base≤(w.alloc (.cells #[.int .i64 q] 3)).drew.heap.size:=by simp[abB];omega
 have hq:Q w (w.alloc (.cells #[.int .i64 q] 3)).drew:=(Q.alloc w _).trans (Q.drew _);have hH:(w.alloc (.cells #[.int .i64 q] 3)).drew.heap.size=w.heap.size+1:=by simp[abB]
 refine wp_region_noPanic ?_;go_region_law (first|(refine step_append_lies _ (by rfl) _ _ 199 (by rfl) base 3 i0 (.int .i64 0) 1 8 Tryz.underlying199 hi fJ eU fD rfl (by decide) v ps.length (kH ps) (by rfl) (aX (bF _ HO.out)) ⟨w.heap.size,0,none⟩ 1 1 [.int .i64 q] (by rfl) rfl (World.news_of_block (heap_alloc_new w _)) jM (by decide) Cv hB1 aO (w.heap.size+1) hH ?_;intro g2 cap wa nS rJ lN hlt;have Nh:=grown_of hq rJ;have cw:=Nh.cell cL (Ne.symm Ui);have fw:=(frozen_far Nh AA Ui).trans cF;have HW:=Hd nS;have HG:=Hd Nh;clear nS Nh rJ))
 all_goals exact zq.out wa g2 cap _ _ _ _ _ _ _ _ _ _ _ (by simpa[kH] using HW.out) HG.out (lN.imp id (fun h=>by omega)) hlt
structure qw where
 e:TypeId
 size:Nat
 v:Value
 n:Nat
 xs:List Value
abbrev rV:=Bytes×Option Int
structure Fam (W:World) (base:Nat) (F:rV→Option qw):Prop where
 owns:∀κ r,F κ=some r→W.ownsRow base r.e r.size r.v r.n r.xs
 apart:∀κ κ' r r' g,F κ=some r→F κ'=some r'→r.v.ownBlock=some g→r'.v.ownBlock=some g→κ=κ'
def Hw(F:rV→Option qw)(κ:rV)(r:qw):rV→Option qw:=fun x=>if x=κ then some r else F x
theorem zA(F:rV→Option qw)(κ:rV)(r:qw):Hw F κ r κ=some r:=by simp[Hw]
theorem iC{F:rV→Option qw}{κ κ':rV}{r:qw}(h:κ'≠κ):Hw F κ r κ'=F κ':=by simp[Hw,h]
theorem Fam.q{W W':World}{base:Nat}{F:rV→Option qw}(h:Fam W base F)(q:Q W W'):Fam W' base F:=⟨fun κ r hr=>ownsRow_below (h.owns κ r hr) q,h.apart⟩
theorem Fam.empty(W:World)(base:Nat):Fam W base fun _=>none:=⟨fun _ _ h=>(by cases h),fun _ _ _ _ _ h=>(by cases h)⟩
theorem Fam.put{W W':World}{base:Nat}{F:rV→Option qw}(h:Fam W base F){κ:rV}{row:Option Nat}(hg:W.grownBy W' row)(dR:∀g,row=some g→∃r,F κ=some r∧r.v.ownBlock=some g)
  (r:qw) (ho:W'.ownsRow base r.e r.size r.v r.n r.xs) (lN:∀g,r.v.ownBlock=some g→row=some g∨W.heap.size≤g):Fam W' base (Hw F κ r):=by
 have key:∀κ' s,κ'≠κ→F κ'=some s→∀g,s.v.ownBlock=some g→row≠some g:=by
  intro κ' s aF hs g uL e;obtain⟨r0,h0,h1⟩:=dR g e;exact aF (h.apart κ' κ s r0 g hs h0 uL h1)
 have lt:∀κ' s,F κ'=some s→∀g,s.v.ownBlock=some g→g<W.heap.size:=fun κ' s hs g uL=>((h.owns κ' s hs).lt g uL).2
 refine⟨fun κ' s hs=>?_,fun κ1 κ2 r1 r2 g h1 h2 b1 b2=>?_⟩
 ·by_cases hk:κ'=κ
  ·rw[hk,zA] at hs;cases hs;exact ho
  ·rw[iC hk] at hs
   refine(h.owns κ' s hs).kept hg ?_;cases hb:s.v.ownBlock with
   | none=>exact .inl rfl
   | some g=>exact .inr (fun e=>key κ' s hk hs g hb e.symm)
 ·by_cases vO:κ1=κ
  ·by_cases mP:κ2=κ
   ·rw[vO,mP]
   ·exfalso
    rw[vO,zA] at h1;cases h1;rw[iC mP] at h2;rcases lN g b1 with e|e
    ·exact key κ2 r2 mP h2 g b2 e
    ·have:=lt κ2 r2 h2 g b2;omega
  ·by_cases mP:κ2=κ
   ·exfalso
    rw[mP,zA] at h2;cases h2;rw[iC vO] at h1;rcases lN g b2 with e|e
    ·exact key κ1 r1 vO h1 g b1 e
    ·have:=lt κ1 r1 h1 g b1;omega
   ·rw[iC vO] at h1;rw[iC mP] at h2
    exact h.apart κ1 κ2 r1 r2 g h1 h2 b1 b2
theorem Fam.kept{W W':World}{base:Nat}{F:rV→Option qw}(h:Fam W base F){row:Option Nat}(hg:W.grownBy W' row)(dR:∀g,row=some g→∀κ r,F κ=some r→r.v.ownBlock≠some g):Fam W' base F:=by
 refine⟨fun κ r hr=>(h.owns κ r hr).kept hg ?_,h.apart⟩
 cases hb:r.v.ownBlock with
 | none=>exact .inl rfl
 | some g=>exact .inr (fun e=>dR g e.symm κ r hr hb)
theorem kN(W:World)(b i:Nat)(v:Value):W.grownBy (W.setCell ⟨b,i,none⟩ v) (some b) :=
 ⟨rfl,rfl,rfl,(KeepsWalks.setCell W _ v).size,fun k _ hk=>Below.heap_setCell _ _ _ k (fun e=>hk (by rw[e]))⟩
theorem NY{W:World}{base:Nat}{e:TypeId}{size g n cap:Nat}{xs:List Value}(h:W.ownsRow base e size (.slice (some ⟨g,0,none⟩) n cap) n xs)(i:Nat)(hi:i<xs.length)(u:Value):
  (W.setCell ⟨g,i,none⟩ u).ownsRow base e size (.slice (some ⟨g,0,none⟩) n cap) n (xs.set i u):=by
 obtain⟨h1,h2⟩:=h;refine⟨by rw[List.length_set];exact h1,?_⟩
 rcases h2 with ⟨hv,_⟩|⟨g',cap',cur,hv,hb,hg,gX,dM,zO,ht⟩
 ·cases hv
 ·injection hv with e1 e2 e3
  injection e1 with e1;injection e1 with e1;subst e1;subst e3;refine .inr ⟨g,cap,cur.setIfInBounds i u,rfl,hb,?_,gX,dM,by simpa using zO,?_⟩
  ·simp[World.setCell,Array.getElem?_modify,hg]
  ·have um:xs.length≤cur.size:=by rw[h1,zO];exact Nat.mul_le_mul_right _ gX
   rw[Array.toList_setIfInBounds,←ht,List.take_set]
structure Ki (A B:World):Prop where
 size:A.heap.size≤B.heap.size
 get:∀(k:Nat) (cs:Array Value) (t:TypeId) (fz:Nat×Nat),A.heap[k]?=some (.cells cs t fz)→t≠3→t≠201→B.heap[k]?=some (.cells cs t fz)
theorem Ki.refl(A:World):Ki A A:=⟨Nat.le_refl _,fun _ _ _ _ h _ _=>h⟩
theorem Ki.trans{A B C:World}(h:Ki A B)(k:Ki B C):Ki A C:=⟨Nat.le_trans h.size k.size,fun i cs t fz h1 h2 h3=>k.get i cs t fz (h.get i cs t fz h1 h2 h3) h2 h3⟩
theorem Ki.of_q{A B:World}(q:Q A B):Ki A B:=⟨q.size,fun k cs t fz h _ _=>(q.block k (aU h)).trans h⟩
theorem Ki.grown{A B:World}{row:Option Nat}(hg:A.grownBy B row)(dR:∀g,row=some g→∀(cs:Array Value) (t:TypeId) (fz:Nat×Nat),A.heap[g]?=some (.cells cs t fz)→t=3∨t=201):Ki A B :=
 ⟨hg.size,fun k cs t fz h h1 h2=>(hg.block k (aU h) (fun e=>by
  rcases dR k e.symm cs t fz h with h3|h3
  ·exact h1 h3
  ·exact h2 h3)).trans h⟩
theorem Ki.boxed{A B:World}(h:Ki A B){k:Nat}{t:TypeId}{v:Value}(hb:Boxed A k t v)(h1:t≠3)(h2:t≠201):Boxed B k t v:=h.get _ _ _ _ hb h1 h2
theorem Ki.owns{A B:World}(h:Ki A B){base:Nat}{e:TypeId}{size:Nat}{v:Value}{n:Nat}{xs:List Value}(hr:A.ownsRow base e size v n xs)(h1:e≠3)(h2:e≠201):B.ownsRow base e size v n xs:=by
 obtain⟨a,b⟩:=hr;refine⟨a,?_⟩;rcases b with b|⟨g,cap,cur,hv,hb,hg,rest⟩
 ·exact .inl b
 ·exact .inr ⟨g,cap,cur,hv,hb,h.get _ _ _ _ hg h1 h2,rest⟩
abbrev IxA:=List (Bytes×List aZ)
def addP(i q:Int)(l:List aZ):List aZ :=
 match l.getLast? with
 | some x=>if x.1=i then l.dropLast++[(i,x.2++[q])] else l++[(i,[q])]
 | none=>[(i,[q])]
def oG(i:Int)(A:IxA)(x:Bytes×Nat):IxA:=fU x.1 (addP i x.2 ((getM x.1 A).getD [])) A
theorem UH(i q:Int)(l:List aZ)(ps:List Int):addP i q (l++[(i,ps)])=l++[(i,ps++[q])]:=by
 unfold addP;rw[List.getLast?_concat];simp
theorem UJ(i q:Int)(l:List aZ)(h:∀x∈l,x.1≠i):addP i q l=l++[(i,[q])]:=by
 unfold addP;cases hl:l.getLast? with
 | none=>rw[List.getLast?_eq_none_iff.1 hl];rfl
 | some x=>simp[h x (List.mem_of_getLast? hl)]
theorem abC{α β:Type}(f:α→β)(k:Bytes)(m:List (Bytes×α)):getM k (m.map fun e=>(e.1,f e.2))=(getM k m).map f:=by
 induction m with
 | nil=>rfl
 | cons x m ih=>simp only[List.map_cons,getM];split<;>simp[ih]
theorem abD{α β:Type}(f:α→β)(k:Bytes)(v:α)(m:List (Bytes×α)):(fU k v m).map (fun e=>(e.1,f e.2))=fU k (f v) (m.map fun e=>(e.1,f e.2)):=by
 induction m with
 | nil=>rfl
 | cons x m ih=>simp only[List.map_cons,fU];split<;>simp[ih]
theorem aeK{α:Type}(k:Bytes)(v:α)(m:List (Bytes×α)):(fU k v m).length≤m.length+1:=by
 induction m with
 | nil=>simp[fU]
 | cons x m ih=>simp only[fU];split<;>simp;omega
structure PWf (l:List aZ) (i:Int) (j:Nat):Prop where
 some:l≠[]
 rise:(l.map (·.1)).Pairwise (·<·)
 doc:∀x∈l,0≤x.1∧x.1≤i
 long:∀x∈l,x.2.length≤2001
 last:∀x∈l,x.1=i→x.2.length≤j
structure AWf (A:IxA) (i:Int) (j:Nat):Prop where
 keys:(A.map (·.1)).Nodup
 small:∀x∈A,x.1.length≤40
 count:(A.length:Int)≤2001*i+j
 posts:∀t l,getM t A=some l→PWf l i j
theorem AWf.nil:AWf [] 0 0:=⟨by simp,by simp,by simp,fun _ _ h=>(by cases h)⟩
theorem PWf.more{l:List aZ}{i:Int}{j:Nat}(h:PWf l i j):PWf l i (j+1):=⟨h.some,h.rise,h.doc,h.long,fun x hx e=>by have:=h.last x hx e;omega⟩
theorem AWf.next{A:IxA}{i:Int}{j:Nat}(h:AWf A i j)(hj:j≤2001):AWf A (i+1) 0 :=
 ⟨h.keys,h.small,by have:=h.count;omega,fun t l hl=>by
  have p:=h.posts t l hl
  exact⟨p.some,p.rise,fun x hx=>by have:=p.doc x hx;omega,p.long,fun x hx e=>by have:=(p.doc x hx).2;omega⟩⟩
theorem PWf.parts{l:List aZ}{i:Int}{j:Nat}(h:PWf l i j):(∃l0 ps,l=l0++[(i,ps)]∧(∀x∈l0,x.1<i)∧ps.length≤j)∨(∀x∈l,x.1<i):=by
 obtain⟨l0,x,rfl⟩:∃l0 x,l=l0++[x]:=⟨l.dropLast,l.getLast h.some,(List.dropLast_concat_getLast h.some).symm⟩;have hr:=h.rise;rw[List.map_append,List.pairwise_append] at hr;have hlt:∀y∈l0,y.1<x.1:=fun y hy=>hr.2.2 _ (List.mem_map_of_mem hy) _ (by simp)
 have hx:=(h.doc x (by simp)).2
 by_cases e:x.1=i
 ·refine .inl ⟨l0,x.2,by rw[←e],fun y hy=>by have:=hlt y hy;omega,h.last x (by simp) e⟩
 ·refine .inr fun y hy=>?_
  rcases List.mem_append.1 hy with hy|hy
  ·have:=hlt y hy;omega
  ·rw[List.mem_singleton] at hy;subst hy;omega
theorem PWf.add{l:List aZ}{i:Int}{j:Nat}(h:l=[]∨PWf l i j)(hi:0≤i)(hj:j<2001)(q:Int):PWf (addP i q l) i (j+1):=by
 have new:∀l:List aZ,(∀x∈l,x.1<i)→(l=[]∨PWf l i j)→PWf (addP i q l) i (j+1):=by
  intro l hlt hl;rw[UJ i q l (fun x hx e=>by have:=hlt x hx;omega)]
  have aqF:(l.map (·.1)).Pairwise (·<·):=by(rcases hl with rfl|p<;>first|exact p.rise|simp)
  have Yy:∀x∈l,0≤x.1∧x.1≤i:=by(rcases hl with rfl|p<;>first|exact p.doc|simp)
  have aqG:∀x∈l,x.2.length≤2001:=by(rcases hl with rfl|p<;>first|exact p.long|simp)
  refine⟨by simp,?_,?_,?_,?_⟩
  ·rw[List.map_append,List.pairwise_append]
   refine⟨aqF,by simp,fun a ha b hb=>?_⟩
   obtain⟨x,hx,rfl⟩:=List.mem_map.1 ha;simp at hb;subst hb;exact hlt x hx
  ·intro x hx
   rcases List.mem_append.1 hx with hx|hx
   ·exact Yy x hx
   ·rw[List.mem_singleton] at hx;subst hx;exact⟨hi,Int.le_refl _⟩
  ·intro x hx
   rcases List.mem_append.1 hx with hx|hx
   ·exact aqG x hx
   ·rw[List.mem_singleton] at hx;subst hx;simp
  ·intro x hx e
   rcases List.mem_append.1 hx with hx|hx
   ·have:=hlt x hx;omega
   ·rw[List.mem_singleton] at hx;subst hx;simp
 rcases h with rfl|p
 ·exact new [] (by simp) (.inl rfl)
 ·rcases p.parts with ⟨l0,ps,rfl,hlt,oP⟩|hlt
  ·rw[UH]
   have hr:=p.rise;refine⟨by simp,?_,?_,?_,?_⟩
   ·rw[List.map_append] at hr ⊢;exact hr
   ·intro x hx
    rcases List.mem_append.1 hx with hx|hx
    ·exact p.doc x (List.mem_append_left _ hx)
    ·rw[List.mem_singleton] at hx;subst hx;exact⟨hi,Int.le_refl _⟩
   ·intro x hx
    rcases List.mem_append.1 hx with hx|hx
    ·exact p.long x (List.mem_append_left _ hx)
    ·rw[List.mem_singleton] at hx;subst hx;simp;omega
   ·intro x hx e
    rcases List.mem_append.1 hx with hx|hx
    ·have:=hlt x hx;omega
    ·rw[List.mem_singleton] at hx;subst hx;simp;omega
  ·exact new l hlt (.inr p)
theorem AWf.add{A:IxA}{i:Int}{j:Nat}(h:AWf A i j)(hi:0≤i)(hj:j<2001)(x:Bytes×Nat)(hx:x.1.length≤40):AWf (oG i A x) i (j+1):=by
 refine⟨?_,?_,?_,?_⟩
 ·unfold oG
  rw[NR];split
  ·exact h.keys
  ·rename_i hn
   rw[List.nodup_append];exact⟨h.keys,by simp,fun a ha b hb=>by simp at hb;subst hb;exact fun e=>hn (e▸ha)⟩
 ·intro y hy
  have:y.1∈(oG i A x).map (·.1):=List.mem_map_of_mem hy
  unfold oG at this;rw[NR] at this;split at this
  ·obtain⟨z,hz,e⟩:=List.mem_map.1 this;rw[←e];exact h.small z hz
  ·rcases List.mem_append.1 this with this|this
   ·obtain⟨z,hz,e⟩:=List.mem_map.1 this;rw[←e];exact h.small z hz
   ·rw[List.mem_singleton] at this;rw[this];exact hx
 ·have:=aeK x.1 (addP i x.2 ((getM x.1 A).getD [])) A
  have:=h.count;unfold oG;omega
 ·intro t l hl
  unfold oG at hl;rw[get_put] at hl;split at hl
  ·cases hl
   refine PWf.add ?_ hi hj x.2;cases hg:getM x.1 A with
   | none=>exact .inl rfl
   | some l=>exact .inr (h.posts _ _ hg)
  ·exact(h.posts t l hl).more
theorem rise_len(l:List Int)(k i:Int)(hr:l.Pairwise (·<·))(h:∀x∈l,k≤x∧x≤i)(hk:k≤i+1):(l.length:Int)+k≤i+1:=by
 induction l generalizing k with
 | nil=>simp;omega
 | cons a l ih =>
  rw[List.pairwise_cons] at hr;have ha:=h a (List.mem_cons_self ..);have:=ih (k+1) hr.2 (fun x hx=>by have:=hr.1 x hx;have:=h x (List.mem_cons_of_mem _ hx);omega) (by omega)
  simp only[List.length_cons];omega
theorem PWf.length{l:List aZ}{i:Int}{j:Nat}(h:PWf l i j)(hi:0≤i):(l.length:Int)≤i+1:=by
 have:=rise_len (l.map (·.1)) 0 i h.rise (fun x hx=>by obtain⟨y,hy,rfl⟩:=List.mem_map.1 hx;exact h.doc y hy) (by omega)
 rw[List.length_map] at this;omega
abbrev IxV:=List (Bytes×(Value×List aR))
abbrev qA(m:IxV):IxA:=m.map fun e=>(e.1,aK e.2.2)
abbrev yV(m:IxV):List (Bytes×Value):=m.map fun e=>(e.1,e.2.1)
abbrev rowP(v:Value)(l:List aR):qw:=⟨201,2,v,l.length,fH l⟩
abbrev rowI(v:Value)(ps:List Int):qw:=⟨3,1,v,ps.length,kH ps⟩
def Held(F:rV→Option qw)(t:Bytes)(v:Value)(l:List aR):Prop:=F (t,none)=some (rowP v l)∧∀x∈l,F (t,some x.1)=some (rowI x.2.1 x.2.2)
structure IxW (W:World) (base mb:Nat) (m:IxV) (F:rV→Option qw):Prop where
 map:MapS W mb (yV m)
 fam:Fam W base F
 held:∀t v l,getM t m=some (v,l)→Held F t v l
structure IxT (W:World) (base mb:Nat) (m:IxV) (F:rV→Option qw) (t:Bytes) (i:Int) (g cap:Nat) (l0:List aR) (pv:Value) (ps:List Int):Prop where
 map:MapS W mb (yV m)
 fam:Fam W base F
 row:F (t,none)=some (rowP (.slice (some ⟨g,0,none⟩) (l0.length+1) cap) (l0++[(i,pv,ps)]))
 last:F (t,some i)=some (rowI pv ps)
 init:∀x∈l0,x.1≠i∧F (t,some x.1)=some (rowI x.2.1 x.2.2)
 other:∀t' v l,t'≠t→getM t' m=some (v,l)→Held F t' v l
theorem Jl(t:Bytes)(m:IxV):getM t (qA m)=(getM t m).map fun e=>aK e.2:=abC (fun e:Value×List aR=>aK e.2) t m
theorem getM_val(t:Bytes)(m:IxV):getM t (yV m)=(getM t m).map fun e=>e.1:=abC (fun e:Value×List aR=>e.1) t m
theorem UK(t:Bytes)(v:Value×List aR)(m:IxV):qA (fU t v m)=fU t (aK v.2) (qA m):=abD (fun e:Value×List aR=>aK e.2) t v m
theorem putM_val(t:Bytes)(v:Value×List aR)(m:IxV):yV (fU t v m)=fU t v.1 (yV m):=abD (fun e:Value×List aR=>e.1) t v m
theorem IxW.start{W:World}{base mb:Nat}(h:MapS W mb []):IxW W base mb [] fun _=>none:=⟨h,Fam.empty _ _,fun _ _ _ h=>(by cases h)⟩
theorem IxW.q{W W':World}{base mb:Nat}{m:IxV}{F:rV→Option qw}(h:IxW W base mb m F)(q:Q W W'):IxW W' base mb m F:=⟨h.map.stays q,h.fam.q q,h.held⟩
theorem IxT.q{W W':World}{base mb:Nat}{m:IxV}{F:rV→Option qw}{t:Bytes}{i:Int}{g cap:Nat}{l0:List aR}{pv:Value}{ps:List Int}(h:IxT W base mb m F t i g cap l0 pv ps)(q:Q W W'):IxT W' base mb m F t i g cap l0 pv ps :=
 ⟨h.map.stays q,h.fam.q q,h.row,h.last,h.init,h.other⟩
def dL(m:IxV)(t:Bytes):Value×List aR:=(getM t m).getD (.slice none 0 0,[])
theorem IxW.cur{W:World}{base mb:Nat}{m:IxV}{F:rV→Option qw}(h:IxW W base mb m F)(t:Bytes):W.ownsRow base 201 2 (dL m t).1 (dL m t).2.length (fH (dL m t).2)∧(∀g,(dL m t).1.ownBlock=some g→∃r,F (t,none)=some r∧r.v.ownBlock=some g)∧(getM t (yV m)).getD (.slice none 0 0)=(dL m t).1:=by
 unfold dL;rw[getM_val];cases hg:getM t m with
 | none=>exact⟨World.ownsRow_nil _ _ _ _,fun g hg=>by simp[Value.ownBlock] at hg,rfl⟩
 | some e =>
  obtain⟨v,l⟩:=e;have:=h.held t v l hg;exact⟨h.fam.owns _ _ this.1,fun g hg=>⟨_,this.1,hg⟩,rfl⟩
theorem IB{W:World}{base mb:Nat}{e:TypeId}{size:Nat}{v:Value}{n:Nat}{xs:List Value}{m:List (Bytes×Value)}(h:MapS W mb m)(ho:W.ownsRow base e size v n xs):v.ownBlock≠some mb:=by
 intro hb;obtain⟨cs,hc⟩:=jE ho mb hb;obtain⟨es,clock,h1,_⟩:=h;rw[hc] at h1;cases h1
theorem MapS.grown{W W':World}{mb:Nat}{m:List (Bytes×Value)}{row:Option Nat}(h:MapS W mb m)(hg:W.grownBy W' row)(aF:row≠some mb):MapS W' mb m:=h.same (hg.block mb h.lt (fun e=>aF e.symm))
theorem IxW.new{W w4:World}{base mb:Nat}{m:IxV}{F:rV→Option qw}(h:IxW W base mb m F)(t:Bytes)(i:Int){g cap:Nat}(hlt:∀x∈(dL m t).2,x.1≠i)
  (ho:w4.ownsRow base 201 2 (.slice (some ⟨g,0,none⟩) ((dL m t).2.length+1) cap) ((dL m t).2.length+1) (fH (dL m t).2++[.int .i64 i,.slice none 0 0]))
  (hg:W.grownBy w4 (dL m t).1.ownBlock) (lN:(dL m t).1.ownBlock=some g∨W.heap.size<g) :
  IxT w4 base mb m (Hw (Hw F (t,none) (rowP (.slice (some ⟨g,0,none⟩) ((dL m t).2.length+1) cap) ((dL m t).2++[(i,.slice none 0 0,[])]))) (t,some i) (rowI (.slice none 0 0) [])) t i g cap (dL m t).2 (.slice none 0 0) []:=by
 obtain⟨c1,c2,c3⟩:=h.cur t;have e1:fH ((dL m t).2++[(i,.slice none 0 0,[])])=fH (dL m t).2++[.int .i64 i,.slice none 0 0]:=by simp[fH]
 have hl:((dL m t).2++[((i,.slice none 0 0,[]):aR)]).length=(dL m t).2.length+1:=by simp
 have f1:Fam w4 base (Hw F (t,none) (rowP (.slice (some ⟨g,0,none⟩) ((dL m t).2.length+1) cap) ((dL m t).2++[(i,.slice none 0 0,[])]))):=by
  refine h.fam.put hg c2 _ ?_ (fun k hk=>?_)
  ·show w4.ownsRow base _ 2 (.slice (some ⟨g,0,none⟩) ((dL m t).2.length+1) cap) ((dL m t).2++[((i,.slice none 0 0,[]):aR)]).length (fH ((dL m t).2++[((i,.slice none 0 0,[]):aR)]))
   rw[e1,hl];exact ho
  ·simp only[Value.ownBlock,Option.some.injEq] at hk
   subst hk;exact lN.imp id (fun h=>by omega)
 have f2:Fam w4 base (Hw (Hw F (t,none) (rowP (.slice (some ⟨g,0,none⟩) ((dL m t).2.length+1) cap) ((dL m t).2++[(i,.slice none 0 0,[])]))) (t,some i) (rowI (.slice none 0 0) [])) :=
  f1.put (row:=none) (World.grownBy.mk rfl rfl rfl (Nat.le_refl _) (fun _ _ _=>rfl)) (fun g h=>by cases h) _ (World.ownsRow_nil _ _ _ _) (fun k hk=>by simp[Value.ownBlock] at hk)
 refine⟨h.map.grown hg (IB h.map c1),f2,?_,zA _ _ _,fun x hx=>⟨hlt x hx,?_⟩,fun t' v l aF uo=>?_⟩
 ·rw[iC (by simp),zA]
 ·rw[iC (by simp;exact hlt x hx),iC (by simp)]
  unfold dL at hx;cases uo:getM t m with
  | none=>rw[uo] at hx;simp at hx
  | some e=>rw[uo] at hx;exact(h.held t e.1 e.2 uo).2 x hx
 ·have:=h.held t' v l uo
  refine⟨?_,fun x hx=>?_⟩
  ·rw[iC (by simp),iC (by simp;exact aF)];exact this.1
  ·rw[iC (by simp;exact fun h=>absurd h aF),iC (by simp)];exact this.2 x hx
theorem IxW.old{W:World}{base mb:Nat}{m:IxV}{F:rV→Option qw}(h:IxW W base mb m F)(t:Bytes)(i:Int){l0:List aR}{pv:Value}{ps:List Int}(hc:(dL m t).2=l0++[(i,pv,ps)])(hlt:∀x∈l0,x.1≠i):
  ∃g cap,(dL m t).1=.slice (some ⟨g,0,none⟩) (l0.length+1) cap∧IxT W base mb m F t i g cap l0 pv ps:=by
 obtain⟨c1,_,_⟩:=h.cur t;rw[hc] at c1;obtain⟨g,cap,hv⟩:=ownsRow_succ (k:=l0.length) (by simpa using c1)
 refine⟨g,cap,hv,h.map,h.fam,?_,?_,?_,fun t' v l _ uo=>h.held t' v l uo⟩
 all_goals
  unfold dL at hc hv;cases uo:getM t m with
  | none=>rw[uo] at hc;simp at hc
  | some e =>
   obtain⟨v,l⟩:=e;rw[uo] at hc hv;simp only[Option.getD_some] at hc hv;have:=h.held t v l uo;rw[hc,hv] at this;first
   | exact this.1
   | exact this.2 (i,pv,ps) (by simp)
   | exact fun x hx=>⟨hlt x hx,this.2 x (List.mem_append_left _ hx)⟩
theorem V8(l0:List aR)(i:Int)(pv pv':Value)(ps ps':List Int):(fH (l0++[(i,pv,ps)])).set (l0.length*2+1) pv'=fH (l0++[(i,pv',ps')]):=by
 have h:(fH l0).length=l0.length*2:=by
  induction l0 with
  | nil=>rfl
  | cons x l ih=>simp[fH] at ih ⊢;omega
 have e:∀(p:aR),fH (l0++[p])=fH l0++[.int .i64 p.1,p.2.1]:=by intro p;simp[fH]
 rw[e,e,List.set_append_right _ _ (by omega),h]
 rw[show l0.length*2+1-l0.length*2=1 by omega]
 rfl
theorem IxT.place{W wa:World}{base mb:Nat}{m:IxV}{F:rV→Option qw}{t:Bytes}{i:Int}{g cap:Nat}{l0:List aR}{pv:Value}{ps:List Int}(h:IxT W base mb m F t i g cap l0 pv ps)(q:Int){g2 cap2:Nat}
  (ho:wa.ownsRow base 3 1 (.slice (some ⟨g2,0,none⟩) (ps.length+1) cap2) (ps.length+1) (kH (ps++[q]))) (hg:W.grownBy wa pv.ownBlock) (lN:pv.ownBlock=some g2∨W.heap.size<g2) :
  ∃F',IxT (wa.setCell ⟨g,l0.length*2+1,none⟩ (.slice (some ⟨g2,0,none⟩) (ps.length+1) cap2)) base mb m F' t i g cap l0 (.slice (some ⟨g2,0,none⟩) (ps.length+1) cap2) (ps++[q]):=by
 have hl:(ps++[q]).length=ps.length+1:=by simp
 have f1:Fam wa base (Hw F (t,some i) (rowI (.slice (some ⟨g2,0,none⟩) (ps.length+1) cap2) (ps++[q]))):=by
  refine h.fam.put hg (fun k hk=>⟨_,h.last,hk⟩) _ ?_ (fun k hk=>?_)
  ·show wa.ownsRow base _ 1 (.slice (some ⟨g2,0,none⟩) (ps.length+1) cap2) (ps++[q]).length (kH (ps++[q]))
   rw[hl];exact ho
  ·simp only[Value.ownBlock,Option.some.injEq] at hk
   subst hk;exact lN.imp id (fun h=>by omega)
 have aml:Hw F (t,some i) (rowI (.slice (some ⟨g2,0,none⟩) (ps.length+1) cap2) (ps++[q])) (t,none)=some (rowP (.slice (some ⟨g,0,none⟩) (l0.length+1) cap) (l0++[(i,pv,ps)])):=by
  rw[iC (by simp)];exact h.row
 have o1:=f1.owns _ _ aml;have jZ:∀pv ps,(l0++[((i,pv,ps):aR)]).length=l0.length+1:=by intro pv ps;simp
 have o1':wa.ownsRow base 201 2 (.slice (some ⟨g,0,none⟩) (l0.length+1) cap) (l0.length+1) (fH (l0++[(i,pv,ps)])):=by
  have h:wa.ownsRow base 201 2 (.slice (some ⟨g,0,none⟩) (l0.length+1) cap) (l0++[((i,pv,ps):aR)]).length (fH (l0++[(i,pv,ps)])):=o1;rw[jZ] at h;exact h
 have aD:(fH (l0++[(i,pv,ps)])).length=(l0.length+1)*2:=by
  exact o1'.1
 have o2:=NY (n:=l0.length+1) o1' (l0.length*2+1) (by rw[aD];omega) (.slice (some ⟨g2,0,none⟩) (ps.length+1) cap2)
 rw[V8 l0 i pv _ ps (ps++[q])] at o2;have f2:=f1.put (κ:=(t,none)) (kN wa g (l0.length*2+1) (.slice (some ⟨g2,0,none⟩) (ps.length+1) cap2)) (fun k hk=>⟨_,aml,by simpa[Value.ownBlock] using hk⟩)
  (rowP (.slice (some ⟨g,0,none⟩) (l0.length+1) cap) (l0++[(i,.slice (some ⟨g2,0,none⟩) (ps.length+1) cap2,ps++[q])])) (by show World.ownsRow _ _ _ 2 (.slice (some ⟨g,0,none⟩) (l0.length+1) cap) (l0++[((i,_,ps++[q]):aR)]).length _;rw[jZ];exact o2) (fun k hk=>.inl (by simpa[Value.ownBlock] using hk))
 have aiW:MapS (wa.setCell ⟨g,l0.length*2+1,none⟩ (.slice (some ⟨g2,0,none⟩) (ps.length+1) cap2)) mb (yV m):=by
  have m1:=h.map.grown hg (IB h.map (h.fam.owns _ _ h.last));have aF:=IB m1 o1;exact m1.grown (kN _ _ _ _) (by simpa[Value.ownBlock] using aF)
 refine⟨_,aiW,f2,zA _ _ _,?_,fun x hx=>⟨(h.init x hx).1,?_⟩,fun t' v l aF uo=>?_⟩
 ·rw[iC (by simp),zA]
 ·rw[iC (by simp),iC (by simp;exact(h.init x hx).1)];exact(h.init x hx).2
 ·have:=h.other t' v l aF uo
  refine⟨?_,fun x hx=>?_⟩
  ·rw[iC (by simp;exact aF),iC (by simp)];exact this.1
  ·rw[iC (by simp),iC (by simp;exact fun h=>absurd h aF)];exact this.2 x hx
theorem IxT.put{W w':World}{base mb:Nat}{m:IxV}{F:rV→Option qw}{t:Bytes}{i:Int}{g cap:Nat}{l0:List aR}{pv:Value}{ps:List Int}(h:IxT W base mb m F t i g cap l0 pv ps)
  (hm:MapS w' mb (fU t (.slice (some ⟨g,0,none⟩) (l0.length+1) cap) (yV m))) (hg:W.grownBy w' (some mb)) :
  IxW w' base mb (fU t (.slice (some ⟨g,0,none⟩) (l0.length+1) cap,l0++[(i,pv,ps)]) m) F:=by
 refine⟨by rw[putM_val];exact hm,h.fam.kept hg (fun k hk κ r hr=>by cases hk;exact IB h.map (h.fam.owns κ r hr)),fun t' v l uo=>?_⟩
 rw[get_put] at uo;split at uo
 ·rename_i e;subst e
  cases uo;refine⟨h.row,fun x hx=>?_⟩
  rcases List.mem_append.1 hx with hx|hx
  ·exact(h.init x hx).2
  ·rw[List.mem_singleton] at hx;subst hx;exact h.last
 ·rename_i aF
  exact h.other t' v l (fun e=>aF e.symm) uo
end
end Go.Proofs.YthijhicdmnoifaaGreatDoor
