/- Joined: WInoI to WFsO -/
import Derived.Test.YtonlbpljghohmaaGreatDoorCWWInoA
set_option linter.all false
set_option maxRecDepth 100000
set_option maxHeartbeats 8000000
namespace Go.Proofs.YtonlbpljghohmaaGreatDoor
open Go.Proofs.Tryz
section
open Go.RowKit
structure UpS (w wi:World) (rb:Nat) (s:Bytes) (v:Value) (m:List ax):Prop where
 rd:RdB wi rb s
 q:Q w wi
 lo:w.heap.size≤rb
 rows:∃vs:List Value,vs.length=m.length∧wi.ownsRow (rb+1) 56 4 v m.length (dH vs m)∧∀(i:Nat) a f,vs[i]?=some a→m[i]?=some f→wi.ownsRow (rb+1) 120 2 a f.ext.length (ext f.ext)
section
variable {w wi w':World} {rb:Nat} {s:Bytes} {v:Value} {m:List ax}
theorem UpS.step(h:UpS w wi rb s v m)(q:Q wi w'):UpS w w' rb s v m:=by
 obtain⟨vs,h1,h2,h3⟩:=h.rows;exact⟨h.rd.stays q,h.q.trans q,h.lo,vs,h1,ownsRow_below h2 q,fun i a f ha hf=>ownsRow_below (h3 i a f ha hf) q⟩
theorem UpS.file(h:UpS w wi rb s v m)(f:ax)(r:Bytes)(hs:s=Av f++r)(hl:s.length≤100000)(bP:f.size≤2147483647)(vM:f.ext.length≤16)(hx:∀e∈f.ext,e.1≤4096∧e.2≤4096):
  Calls prog 116 #[au rb] wi fun e w'=>∃av,e=.returned (oN f av)∧UpS w w' rb r v m∧w'.ownsRow (rb+1) 120 2 av f.ext.length (ext f.ext):=by
 refine(B3 wi rb f r s hs h.rd hl bP vM hx).mono ?_;rintro e w' ⟨⟨av,rfl,ho⟩,h1,t⟩;obtain⟨vs,h2,h3,h4⟩:=h.rows;have ay:=h.rd.lt;refine⟨av,rfl,⟨h1,t.below h.q h.q.size (fun k e=>by rw[e];exact h.lo),h.lo,vs,h2,t.owns h3 (fun g hg e=>by have:=(h3.lt g hg).1;omega),fun i a f ha hf=>?_⟩,gT ho U⟩
 have h5:=h4 i a f ha hf;exact t.owns h5 (fun g hg e=>by have:=(h5.lt g hg).1;omega)
theorem UpS.app(h:UpS w wi rb s v m){f:ax}{av v':Value}(ha:wi.ownsRow (rb+1) 120 2 av f.ext.length (ext f.ext)){vs:List Value}(Br:vs.length=m.length)(hv:wi.ownsRow (rb+1) 56 4 v m.length (dH vs m))(hr:∀(i:Nat) a f,vs[i]?=some a→m[i]?=some f→wi.ownsRow (rb+1) 120 2 a f.ext.length (ext f.ext))
  (ho:w'.ownsRow (rb+1) 56 4 v' (m.length+1) (dH vs m++dH [av] [f])) (hg:wi.grownBy w' v.ownBlock):UpS w w' rb s v' (m++[f]):=by
 refine⟨oI h.rd hv hg Z,Below.grown h.q hg h.q.size (fun j hj=>by have:=(hv.lt j hj).1;have:=h.lo;omega),h.lo,vs++[av],by rw[Δ,Δ,Br];rfl,?_,fun i a g h1 h2=>?_⟩
 ·rw[zO _ _ _ _ Br,Δ,Rr];exact ho
 ·rw[List.getElem?_append] at h1 h2
  rw[Br] at h1;split at h1
  ·rename_i hi
   rw[Φ hi] at h2;exact KU (hr i a g h1 h2) hv hg Z
  ·rename_i hi
   rw[η hi] at h2;cases hz:i-m.length with
   | zero =>
    rw[hz] at h1 h2;simp only[W8,N6] at h1 h2;subst h1;subst h2;exact KU ha hv hg Z
   | succ j=>rw[hz] at h1;simp at h1
end
theorem tK:(prog.info? 56).map (fun i=>(i.zero,i.size,i.bytes))=some (some (.agg #[ah [],.bool false,.int .i64 0,.slice none 0 0]),4,56):=by kernel_rfl
theorem UpS.val{w wi:World}{rb:Nat}{s:Bytes}{v:Value}{m:List ax}(h:UpS w wi rb s v m):∃a cap,v=.slice a m.length cap:=by
 obtain⟨vs,h1,h2,h3⟩:=h.rows;obtain⟨a,cap,e,_⟩:=aY h2;exact⟨a,cap,e⟩
theorem UpS.Kd{w wi:World}{rb:Nat}{s:Bytes}{v:Value}{m:List ax}(h:UpS w wi rb s v m):cn (fun k=>w.heap.size≤k) wi v m:=by
 obtain⟨vs,h1,h2,h3⟩:=h.rows;have:=h.lo;exact⟨vs,h1,(SlP.cy h2).mono (fun k hk _=>U) Z,fun i a f ha hf=>(SlP.cy (h3 i a f ha hf)).mono (fun k hk _=>U) Z⟩
theorem Xw(f:ax)(a:Value)(ha:∃p n c,a=.slice p n c):∀u∈dH [a] [f],u.oneCell'=true:=by
 obtain⟨p,n,c,rfl⟩:=ha;intro u hu;simp[dH] at hu;rcases hu with rfl|rfl|rfl|rfl<;>rfl
def oO(l:List ax)(k:Nat)(r:Bytes):Bytes:=(l.drop k).flatMap Av++r
theorem Lp(l:List ax)(k:Nat)(r:Bytes)(h:k<l.length):oO l k r=Av l[k]++oO l (k+1) r:=by
 unfold oO;rw[Re h,OR,MY]
theorem vi(l:List ax)(first n:Nat)(w:World)(hd:cL first n l)(hn:n≤4096)(hf:iA l=true):
  Calls prog 54 #[ah (bR l)] w fun e w'=>(∃v,e=.returned (.tuple #[v,.int .i64 0])∧cn (fun k=>w.heap.size≤k) w' v l)∧Q w w':=by
 obtain⟨i0,hi,bY,bB,aW⟩:=info_parts tK;have bW:=kg hf;have CO:=zm hd hn;have Tp:=hd.few;obtain⟨zs,jl⟩:∃z,z=bg (3072-(ix (je l)).length):=⟨_,rfl⟩;obtain⟨fx,xK⟩:∃z,z=aB (fU (je l)):=⟨_,rfl⟩;have kG:fx.length=4:=by rw[xK];exact aH _
 obtain⟨r0,Ec⟩:∃r,r=fx++zs:=⟨_,rfl⟩;have hp:bR l=[67,68,88,73]++(dN l.length++oO l 0 r0):=by
  unfold bR oO ix je;rw[SU,Ec,xK,jl];unfold ix je;simp only[MY]
 have hcut:=fun (W:World)=>Tryz.strings_CutPrefix ⟨(bR l).toArray⟩ ⟨#[67,68,88,73]⟩ W
 have nN:Lib.hasPrefix (bR l) [67,68,88,73]=true:=by rw[hp];simp[Lib.hasPrefix]
 have htp:Lib.trimPrefix (bR l) [67,68,88,73]=dN l.length++oO l 0 r0:=by
  unfold Lib.trimPrefix;rw[nN,Φ rfl,hp];rfl
 simp only[nN,htp] at hcut;obtain⟨s0,wO⟩:∃s,s=dN l.length++oO l 0 r0:=⟨_,rfl⟩;rw[←wO] at hcut;have uX:s0.length≤3072:=by have:=RE List.length hp;rw[bW,Δ,←wO] at this;omega
 have nS:∀k,k≤l.length→(oO l k r0).length≤3072:=fun k hk=>by
  have h1:(oO l 0 r0).length≤3072:=by have:=RE List.length wO;rw[Δ] at this;omega
  have h2:∀j,j≤l.length→(oO l j r0).length≤(oO l 0 r0).length:=fun j=>by
   induction j with
   | zero=>intro _;exact Ω _
   | succ j ih=>intro hj;have h3:=ih U;rw[Lp l j r0 U,Δ] at h3;omega
  exact My (h2 k hk) h1
 have VI:=fun (W:World)=>Tryz.strings_Trim_one ⟨zs.toArray⟩ 0 Z W (by have:=RE List.length jl;rw[fC] at this;show zs.length≤_;omega)
 have htz:Lib.trimB zs 0=[]:=by
  rw[←Lib.trimS_one,QO,jl];intro c hc;exact M3.2 (adk hc)
 simp only[htz] at VI;have aC:=fun k hk=>Lp l k r0 hk
 have rD:oO l l.length r0=r0:=by unfold oO;rw[Wk];rfl
 have zM:=fun (W:World) (v:Value) (h:eE W v l)=>Ke v l 0 4096 W h (hd.wide (MD _) hn) (Ω _)
 have iT:=fun (W:World) (v:Value) (h:eE W v l)=>QV v l W h hd.few (zm hd hn)
 have gV:=QZ hd hn;have nU:=fun (W:World) (B:Nat) (hb:Blk W B 9 #[ah (je l)])=>MK (.slice (some ⟨B,0,none⟩) 1 1) [je l] W ⟨rfl,_,_,rfl,fun _=>⟨B,0,rfl,fun j u hj=>by rw[PF];exact hb.cell j u (by simpa using hj)⟩⟩ κ (by simp;omega)
 simp only[VS,ace,ON] at nU;have aaS:=fun (W:World)=>vY (fU (je l)) W (yA _)
 rw[←xK] at aaS;have ZQ:=fun (k:Nat) (hk:k<l.length)=>CO _ (MA hk)
 have aao:=Hd hcut;have HTL:=Hd nS;have HTR:=Hd VI;have aX:=Hd aC;have Mv:=Hd rD;have Mt:=Hd zM;have Ic:=Hd iT;have xZ:=Hd nU;have Si:=Hd aaS;have TI:=Hd ZQ;have CJ:=Hd (And.intro wO (And.intro uX (And.intro Ec kG)));clear hcut nS VI aC rD zM iT nU aaS ZQ wO uX hp nN htp htz jl xK gV CO hd hf Ec;generalize bR l=pk at *;generalize fU (je l)=cr at *;generalize je l=dl at *;go_enter func54,ntmps54;go_wp2_with fail;refine(aao.out _).mono ?_;rintro e w1 ⟨rfl,rfl⟩;have amH:(pk.length:Int)=3072:=U;go_wp2_with fail;have eH:RdB (w1.alloc (.cells #[ah s0,.bool false] 184)) w1.heap.size s0:=Blk.new _ _ _;have xQ:Calls prog 115 #[au w1.heap.size,.int .i64 64] _ _:=Q8 _ w1.heap.size l.length 64 (oO l 0 r0) s0 CJ.out.1 eH Tp Z (by have:=CJ.out.2.1;omega)
 refine xQ.mono ?_;rintro e w2 ⟨rfl,h2,t2⟩;have hu:UpS w1 w2 w1.heap.size (oO l 0 r0) (.slice none 0 0) (l.take 0):=by
  rw[TE];exact⟨h2,t2.below (Q.alloc _ _) (Q.alloc _ _).size (fun k e=>by rw[e];exact Ω _),Ω _,[],rfl,World.ownsRow_nil _ _ _ _,fun i a f ha=>by simp at ha⟩
 have HU:=Hd hu;clear h2 t2 hu eH xQ;go_wp2_with fail;go_loopw [7,26] (fun u i wr=>∃(k:Nat),i=.int .i64 (k:Nat)∧k≤l.length∧Hid (UpS w1 wr w1.heap.size (oO l k r0) u (l.take k))) (fun _ i _=>l.length-(intOf i).toNat)
 case atStart=>exact⟨0,rfl,MD _,HU⟩
 case round =>
  obtain⟨k,rfl,hk,HR⟩:=hrel;obtain⟨wo,rfl⟩:∃wo:World,wo=wr:=⟨_,rfl⟩;obtain⟨ua,ucap,rfl⟩:=HR.out.val;rw[Mz,Sx hk] at *;by_cases ay:k<l.length
  ·have bq:(k:Int)<(l.length:Int):=U
   obtain⟨f1,f2,f3,f4⟩:=TI.out k ay;have hfc:Calls prog 116 #[au w1.heap.size] _ _:=HR.out.file l[k] (oO l (k+1) r0) (aX.out k ay) (by have:=HTL.out k hk;omega) f3 f2 f4
   have kH:l.take (k+1)=l.take k++[l[k]]:=M2 ay;have qz:(l.take k).length=k:=by rw[Mz];omega
   have HFC:=Hd hfc;have HK:=Hd (And.intro ay (And.intro kH qz));clear hfc kH qz f1 f2 f3 f4;generalize Pe:l[k]=f at *;clear Pe;generalize l.take k=m at *;go_wp2_with fail;refine HFC.out.mono ?_;rintro e w3 ⟨av,rfl,h3,o3⟩;have ⟨pa,pc,wR,_⟩:=aY o3;obtain⟨vs,Br,zU,ug⟩:=(h3.step (Q.alloc w3 (.cells #[ah f.name,.bool f.sl,.int .i64 (f.size:Nat),av] 56))).rows;rw[HK.out.2.2] at zU;have oa:=ownsRow_below o3 (Q.alloc w3 (.cells #[ah f.name,.bool f.sl,.int .i64 (f.size:Nat),av] 56));have kZ:=h3.step (Q.alloc w3 (.cells #[ah f.name,.bool f.sl,.int .i64 (f.size:Nat),av] 56));have bX:=Sl.lit w3 #[ah f.name,.bool f.sl,.int .i64 (f.size:Nat),av] 56 1 4 rfl;have yJ:=Xw f av ⟨_,_,_,wR⟩;have xG:Hid (Sl (w3.alloc (.cells #[ah f.name,.bool f.sl,.int .i64 (f.size:Nat),av] 56)) (.slice (some ⟨w3.heap.size,0,none⟩) 1 1) 1 4 (dH [av] [f])):=Hd bX;have H1:=Hd yJ;have H2:Hid (k+1≤maxLen):=Hd (by unfold maxLen;omega)
   have H3:Hid ((k+1)*56≤140737488355328):=Hd U;have H4:Hid (w1.heap.size+1≤(w3.alloc (.cells #[ah f.name,.bool f.sl,.int .i64 (f.size:Nat),av] 56)).heap.size):=Hd (by have:=kZ.rd.lt;omega)
   have HRO:=Hd zU;have JD:=Hd (fun v' w' ho hg=>kZ.app (v':=v') (w':=w') oa Br (by rw[HK.out.2.2];exact zU) ug ho hg)
   subst wR;obtain⟨fn,fs,fz,fxx⟩:=f;clear h3 o3 ug oa kZ bX yJ zU Br;go_wp2_with (at_builtin;go_must (refine fM (w3.alloc (.cells #[ah fn,.bool fs,.int .i64 (fz:Nat),.slice pa fxx.length pc] 56)) ρ _ _ 52 ρ (w1.heap.size+1) 56 i0 (.agg #[ah [],.bool false,.int .i64 0,.slice none 0 0]) 4 56 underlying52 hi bY bB aW rfl Z _ _ _ ρ HRO.out _ 1 _ ρ xG.out H1.out H2.out H3.out H4.out ?_))
   intro v' w4 Cq lV _;have h5:=JD.out v' w4 (by rw[HK.out.2.2];exact Cq) lV
   have H5:=Hd h5;clear h5 Cq lV;go_wp2_with fail;go_roundw;case rel=>exact⟨k+1,by go_num,HK.out.1,by rw[HK.out.2.1];exact H5⟩
   case measure=>have:=HK.out.1;simp[intOf];omega
  ·obtain rfl:k=l.length:=U
   have hr:=HR.out;rw[Mv.out,N5] at hr;have LM:=hr.Kd;have sJ:({ data:=r0.toArray }:ByteArray).extract 4 r0.length=⟨zs.toArray⟩:=by rw[fI,CJ.out.2.2.1,abO CJ.out.2.2.2]
   have mh:({ data:=r0.toArray }:ByteArray).extract 0 4=⟨fx.toArray⟩:=by rw[uD,CJ.out.2.2.1,TO CJ.out.2.2.2]
   have hx3:¬(r0.length:Int)<4:=by rw[CJ.out.2.2.1,Δ,CJ.out.2.2.2];omega
   have hx4:(4:Int)≤(r0.length:Int):=U;obtain⟨c0,c1,_⟩:=Blk.c2 hr.rd;have zM:=Mt.out wo _ LM.s;have pR:=hr.q;have aiF:=Hd zM;have LP:=Hd LM;have dF:=Hd pR;have iO:=Hd hr.rd;clear zM LM pR hr;go_wp2_with fail;refine aiF.out.mono ?_;rintro e w3 ⟨rfl,q3⟩;have c0:=aj q3 c0;have c1:=aj q3 c1;have Q3:=Hd q3;clear q3;go_wp2_with fail;refine(HTR.out _).mono ?_;rintro e w4 ⟨rfl,Fq⟩;have q4:Q wo w4:=by rcases Fq with rfl|rfl;exact Q3.out;exact Q3.out.trans (Q.drew _)
   have iT:=Ic.out w4 _ (LP.out.q q4).s;have aiG:=Hd iT;have Q4:=Hd q4;clear iT q4 Fq;go_wp2_with fail;refine aiG.out.mono ?_;rintro e w5 ⟨rfl,q5⟩;have Q5:=Hd (Q4.out.trans q5);have d0:=(Blk.c2 (Blk.stays iO.out Q5.out)).1;have KK:=Hd (Q.refl w5);clear q5;go_wp2_with fail
   (go_region_held3 (fun w'=>w'.cell? ⟨w1.heap.size,0,none⟩=some (ah r0))
    (first|exact d0|exact aI δ d0)
    (first
     | (go_at_call 119;with_reducible refine(xZ.out _ _ (by first|exact Blk.new _ _ _|exact(Blk.new _ _ _).stays (Q.drew _)|exact(Blk.new _ _ _).stays ((Q.drew _).trans (Q.drew _)))).mono ?_;rintro e w3 ⟨rfl,q3⟩;have s':Q w5 w3:=(by rw[←q3];repeat (first|with_reducible exact KK.out|with_reducible apply Qs.dr|with_reducible apply Qs.al));clear KK q3;have KK:=Hd s';clear s')
     | (go_at_call 118;with_reducible refine(Si.out _).mono ?_;rintro e w3 ⟨rfl,q3⟩;have s':Q w5 w3:=Q.trans ω q3;clear KK;have KK:=Hd s';clear s' q3)))
   all_goals
    go_wp2_with fail;go_returns;exact⟨⟨_,rfl,LP.out.q (Q5.out.trans KK.out)⟩,Below.trans dF.out (Below.mono (Q5.out.trans KK.out) dF.out.size)⟩
end
section
open Go.RowKit
theorem Xx(v:Value)(n:Nat)(xs:List Value)(w:World)(h:Sl w v n 4 xs)(h1:∀u∈xs,u.oneCell'=true)(hn:n≤5000):
  Calls prog 55 #[v] w fun e w'=>∃v',e=.returned v'∧w'.ownsRow w.heap.size 56 4 v' n xs∧Q w w':=by
 obtain⟨i0,hi,bY,bB,aW⟩:=info_parts tK;have lI:∃a cap,v=.slice a n cap∧(a=none→n=0):=by
  obtain⟨_,a,cap,rfl,hc⟩:=h;refine⟨a,cap,rfl,fun e=>?_⟩
  rcases UX n with h0|h0
  ·exact h0
  ·obtain⟨b,off,h2,_⟩:=hc h0
   rw[e] at h2;cases h2
 obtain⟨a,cap,rfl,hz⟩:=lI;have Ac:=h.1;have aU:=fun (W:World)=>Lib.run_eql_slice_nil (P:=prog) W 52 56 a n cap 0 0 underlying52
 have hq:=Q.alloc w (.cells #[] 56);have hs:=h.stays hq;have ho:=World.ownsRow_lit (e:=56) (size:=4) w #[] 0 (Ω _) Z κ;have h2:0+n≤maxLen:=by unfold maxLen;omega
 have h3:(0+n)*56≤140737488355328:=U;have HS:=Hd hs;have H1:=Hd h1;have HO:=Hd ho;have HQ:=Hd hq;have H2:=Hd h2;have H3:=Hd h3;clear h h1 hs ho hq h2 h3;go_enter func55,ntmps55;cases a with
 | none =>
  obtain rfl:=hz rfl;have:xs=[]:=OS (by simpa using Ac)
  subst this;simp only[Option.isNone] at aU;go_wp2_with (simp only[aU]);go_ret;exact⟨_,rfl,World.ownsRow_nil _ _ _ _,Q.refl _⟩
 | some a =>
  simp only[Option.isNone] at aU;go_wp2_with (first|simp only[aU]|(at_builtin;refine fM (w.alloc (.cells #[] 56)) ρ _ _ 52 ρ w.heap.size 56 i0 (.agg #[ah [],.bool false,.int .i64 0,.slice none 0 0]) 4 56 underlying52 hi bY bB aW rfl Z _ 0 [] ρ HO.out _ _ _ ρ HS.out H1.out H2.out H3.out HQ.out.size ?_))
  intro v' w' o' g' _;have T2:ae (fun k=>k=w.heap.size) (w.alloc (.cells #[] 56)) w':=⟨g'.os,g'.tape,g'.output,g'.size,fun k hk hn=>g'.block k hk (fun e=>hn (by simpa[Value.ownBlock] using e))⟩
  have Q2:=Hd (T2.below HQ.out HQ.out.size (fun k hk=>U))
  clear T2;have O2:=Hd o';clear o' g';go_wp2_with fail;go_ret;exact⟨_,rfl,O2.out,Q2.out⟩
theorem Xy(v:Value)(n:Nat)(xs:List Value)(w:World)(h:Sl w v n 2 xs)(h1:∀u∈xs,u.oneCell'=true)(hn:n≤5000):
  Calls prog 56 #[v] w fun e w'=>∃v',e=.returned v'∧w'.ownsRow w.heap.size 120 2 v' n xs∧Q w w':=by
 obtain⟨i0,hi,bY,bB,aW⟩:=info_parts zl;have lI:∃a cap,v=.slice a n cap∧(a=none→n=0):=by
  obtain⟨_,a,cap,rfl,hc⟩:=h;refine⟨a,cap,rfl,fun e=>?_⟩
  rcases UX n with h0|h0
  ·exact h0
  ·obtain⟨b,off,h2,_⟩:=hc h0
   rw[e] at h2;cases h2
 obtain⟨a,cap,rfl,hz⟩:=lI;have Ac:=h.1;have aU:=fun (W:World)=>Lib.run_eql_slice_nil (P:=prog) W 54 120 a n cap 0 0 underlying54
 have hq:=Q.alloc w (.cells #[] 120);have hs:=h.stays hq;have ho:=World.ownsRow_lit (e:=120) (size:=2) w #[] 0 (Ω _) Z κ;have h2:0+n≤maxLen:=by unfold maxLen;omega
 have h3:(0+n)*16≤140737488355328:=U;have HS:=Hd hs;have H1:=Hd h1;have HO:=Hd ho;have HQ:=Hd hq;have H2:=Hd h2;have H3:=Hd h3;clear h h1 hs ho hq h2 h3;go_enter func56,ntmps56;cases a with
 | none =>
  obtain rfl:=hz rfl;have:xs=[]:=OS (by simpa using Ac)
  subst this;simp only[Option.isNone] at aU;go_wp2_with (simp only[aU]);go_ret;exact⟨_,rfl,World.ownsRow_nil _ _ _ _,Q.refl _⟩
 | some a =>
  simp only[Option.isNone] at aU;go_wp2_with (first|simp only[aU]|(at_builtin;refine fM (w.alloc (.cells #[] 120)) ρ _ _ 54 ρ w.heap.size 120 i0 (.agg #[.int .i64 0,.int .i64 0]) 2 16 underlying54 hi bY bB aW rfl Z _ 0 [] ρ HO.out _ _ _ ρ HS.out H1.out H2.out H3.out HQ.out.size ?_))
  intro v' w' o' g' _;have T2:ae (fun k=>k=w.heap.size) (w.alloc (.cells #[] 120)) w':=⟨g'.os,g'.tape,g'.output,g'.size,fun k hk hn=>g'.block k hk (fun e=>hn (by simpa[Value.ownBlock] using e))⟩
  have Q2:=Hd (T2.below HQ.out HQ.out.size (fun k hk=>U))
  clear T2;have O2:=Hd o';clear o' g';go_wp2_with fail;go_ret;exact⟨_,rfl,O2.out,Q2.out⟩
def mS(w:World)(v v':Value):Prop:=v'.ownBlock=v.ownBlock∨v'.ownBlock=some w.heap.size
theorem zQ{w w':World}{r:Option Nat}(g:w.grownBy w' r):ae (fun k=>r=some k) w w':=⟨g.os,g.tape,g.output,g.size,fun k hk hn=>g.block k hk (fun e=>hn e.symm)⟩
theorem LL{w:World}{vb:Nat}{t:TypeId}{cs:Array Value}(hb:Blk w vb t cs):Sl w (.slice (some ⟨vb,0,none⟩) 1 1) 1 cs.size cs.toList :=
 ⟨κ,_,_,rfl,fun _=>⟨vb,0,rfl,fun j u hj=>by rw[PF];exact hb.cell j u (by simpa using hj)⟩⟩
theorem U4(w:World)(base:Nat)(v:Value)(n:Nat)(xs:List Value)(vb:Nat)(y0 y1 y2 y3:Value)(h:w.ownsRow base 56 4 v n xs)(hb:Blk w vb 56 #[y0,y1,y2,y3])
  (h2:∀u∈[y0,y1,y2,y3],u.oneCell'=true) (hn:n≤1000) (fP:base≤w.heap.size) :
  Calls prog 97 #[v,.int .i64 (n:Nat),.slice (some ⟨vb,0,none⟩) 1 1] w fun e w'=>∃v',e=.returned v'∧w'.ownsRow base 56 4 v' (n+1) (xs++[y0,y1,y2,y3])∧ae (fun k=>v.ownBlock=some k) w w'∧mS w v v':=by
 obtain⟨i0,hi,bY,bB,aW⟩:=info_parts tK;have hv:∃a cap,v=.slice a n cap∧n≤cap∧cap≤maxLen:=by
  rcases h.2 with ⟨rfl,rfl⟩|⟨g,cap,cur,rfl,_,_,Ho,dJ,_⟩
  ·exact⟨none,0,rfl,Ω _,MD _⟩
  ·exact⟨_,cap,rfl,Ho,dJ⟩
 have hs:=LL hb;have h3:n+1≤maxLen:=by unfold maxLen;omega
 have h4:(n+1)*56≤140737488355328:=U;obtain⟨a,cap,rfl,Ho,dJ⟩:=hv;have hni:(0:Int)≤(n:Int):=U;have HS:=Hd hs;have HO:=Hd h;have H2:=Hd h2;have H3:=Hd h3;have H4:=Hd h4;have H5:=Hd fP;clear hs h h2 h3 h4 fP hb;go_enter func97,ntmps97;go_wp2_with (at_builtin;refine fM w ρ _ _ 52 ρ base 56 i0 (.agg #[ah [],.bool false,.int .i64 0,.slice none 0 0]) 4 56 underlying52 hi bY bB aW rfl Z _ _ _ ρ HO.out _ _ _ ρ HS.out H2.out H3.out H4.out H5.out ?_)
 all_goals
  intro v' w' o' g' OD;have O:=Hd o';have FB:=Hd OD;have T:=Hd (zQ g');clear o' g' OD;go_wp2_with fail;go_ret;refine⟨_,rfl,O.out,by have t:=T.out;clear T O H2 H3 H4 H5 HS HO FB;revert t;cases a<;>exact fun t=>t,?_⟩
  have t:=FB.out;clear T O H2 H3 H4 H5 HS HO FB;revert t;cases a<;>exact fun t=>t
theorem AF(w:World):(Go.sizeOf 56).run prog w=.ok 4 w:=by
 obtain⟨i0,hi,bY,bB,aW⟩:=info_parts tK;simp[sizeOf,typeInfo,hi,bB]
theorem II:(prog.info? 56).map (·.size)=some 4:=by kernel_rfl
theorem uC(w:World)(vb g o lb cb:Nat)(cs cur:Array Value)(hb:Blk w vb 56 cs)(hg:Blk w g 56 cur)(aU:vb≠g)(h0:cur.size≠0)(la ca:Nat):
  (callFunc 183 #[.slice (some ⟨vb,0,none⟩) la ca,.slice (some ⟨g,o,none⟩) lb cb]).run prog w=.ok (.value (.bool false)) w:=by
 rw[run_callFunc_extern func183 (by kernel_rfl) (by kernel_rfl) (by kernel_rfl) (e:=Extern.SlicesOverlaps.overlaps #[52,52] #[4]) (by kernel_rfl),
  Lib.run_overlaps_apart w 52 4 56 underlying52 4 AF ⟨vb,0,none⟩ ⟨g,o,none⟩ la ca lb cb aU 56 56 cs.size cur.size (by simp[World.shape?,show w.heap[vb]?=_ from hb]) (by simp[World.shape?,show w.heap[g]?=_ from hg]) h0 (hb.frozen _) (hb.frozen _)]
 rfl
theorem PS(w:World)(base g cap n i vb:Nat)(cur:Array Value)(xs:List Value)(y0 y1 y2 y3:Value)(lF:base≤g)(hg:Blk w g 56 cur)(hi:i<n)(hroom:n+1≤cap)(dJ:cap≤maxLen)(mQ:cur.size=cap*4)(xL:cur.toList.take (n*4)=xs)(hb:Blk w vb 56 #[y0,y1,y2,y3])(aU:vb≠g)
  (h1:∀u∈xs,u.oneCell'=true) (h2:∀u∈[y0,y1,y2,y3],u.oneCell'=true) :
  Calls prog 97 #[.slice (some ⟨g,0,none⟩) n cap,.int .i64 (i:Nat),.slice (some ⟨vb,0,none⟩) 1 1] w fun e w'=>∃v',e=.returned v'∧w'.ownsRow base 56 4 v' (n+1) (xs.take (i*4)++[y0,y1,y2,y3]++xs.drop (i*4))∧ae (fun k=>k=g) w w'∧v'.ownBlock=some g:=by
 have aiH:cap≤9223372036854775807:=dJ;have vv:xs.length=n*4:=by rw[←xL,Mz,Su,mQ];omega
 have gV:(xs.drop (i*4)).length=(n-i)*4:=by rw[MM,vv];omega
 have Pk:=fun (lb cb:Nat)=>uC w vb g ((i+1)*4) lb cb _ cur hb hg aU U 1 1
 have eO:IntKind.i64.wrap ((i:Int)+1)=(i:Int)+1:=IntWalk.i64_in _ U;have gD:IntKind.i64.wrap ((n:Int)+1)=(n:Int)+1:=IntWalk.i64_in _ U;have tX:((i:Int)+1).toNat=i+1:=U;have htm:((n:Int)+1).toNat=n+1:=U;have hb1:(0:Int)≤(i:Int)+1:=U;have eH:(0:Int)≤(i:Int):=U;have bN:¬(cap=i+1):=U;have gI:(i:Int)≤(n:Int)+1:=U;have sN:¬(cap=i):=U;have gY:¬((i:Int)=(n:Int)):=U;have tQ:¬((cap:Int)<(n:Int)+1):=U;have Tn:(n:Int)+1≤(cap:Int):=U;have hb8:(0:Int)≤(n:Int)+1:=U;have oZ:(i:Int)≤(n:Int):=U;have amI:(i:Int)+1≤(n:Int)+1:=U;have pQ:Blk w.drew g 56 cur:=hg;have aaT:=fun (ty:TypeId) (dc sc:Nat)=>vH (P:=prog) (ty:=ty) w.drew 52 52 56 4 g ((i+1)*4) (n-i) dc ⟨g,i*4,none⟩ (n+1-i) sc cur 56 (xs.drop (i*4)) underlying52 II pQ (by rw[gV,show Nat.min (n+1-i) (n-i)=n-i by simp only[adL];split<;>omega]) (fun j u hj=>by
  rw[oD];refine pQ.cell _ _ ?_;rw[VC,←xL,VM] at hj;split at hj
  ·simpa using hj
  ·cases hj) (by rw[gV,mQ];omega) (fun u hu=>h1 u (Z3 hu))
 go_enter func97,ntmps97;obtain⟨L1,GV⟩:∃L,L=splice cur.toList ((i+1)*4) (xs.drop (i*4)):=⟨_,rfl⟩;have mG:L1.length=cap*4:=by rw[GV,length_splice _ _ _ (by rw[gV,Su,mQ];omega),Su,mQ]
 rw[←GV] at aaT;obtain⟨W1,oU⟩:∃W,W=w.drew.setRow g L1.toArray:=⟨_,rfl⟩;rw[←oU] at aaT;have eT:Blk W1 g 56 L1.toArray:=by rw[oU];exact setRow_heap w.drew g cur _ _ _ hg
 have yI:Blk W1 vb 56 #[y0,y1,y2,y3]:=by rw[oU];exact(setRow_other w.drew g vb _ aU).trans hb
 have aed:=fun (ty:TypeId) (dc:Nat)=>vH (P:=prog) (ty:=ty) W1 52 52 56 4 g (i*4) (n+1-i) dc ⟨vb,0,none⟩ 1 1 L1.toArray 56 [y0,y1,y2,y3] underlying52 II eT (by rw[show Nat.min 1 (n+1-i)=1 by simp only[adL];split<;>omega];rfl) (fun j u hj=>by rw[oD,PF];exact yI.cell _ _ (by simpa using hj)) (by simp[mG];omega) h2
 obtain⟨W2,mE⟩:∃W,W=W1.setRow g (splice L1 (i*4) [y0,y1,y2,y3]).toArray:=⟨_,rfl⟩;simp only[←mE] at aed;have jM:Blk W2 g 56 (splice L1 (i*4) [y0,y1,y2,y3]).toArray:=by rw[mE];exact setRow_heap W1 g _ _ _ _ eT
 have dP:W2.ownsRow base 56 4 (.slice (some ⟨g,0,none⟩) (n+1) cap) (n+1) (xs.take (i*4)++[y0,y1,y2,y3]++xs.drop (i*4)):=by
  refine⟨by simp only[Δ,Mz,gV,vv,Mu,OF];omega,.inr ⟨g,cap,_,rfl,lF,jM,hroom,dJ,by rw[UI,length_splice _ _ _ (by simp[mG];omega),mG],?_⟩⟩
  have:=Xt cur.toList xs [y0,y1,y2,y3] (i*4) (n*4) 4 xL vv U rfl (by rw[Su,mQ];omega)
  rw[show i*4+4=(i+1)*4 by omega,←GV] at this
  rw[show(n+1)*4=n*4+4 by omega]
  exact this
 have yg:ae (fun k=>k=g) w W2:=by
  refine⟨by rw[mE,oU];rfl,by rw[mE,oU];rfl,by rw[mE,oU];rfl,by rw[mE,oU];simp,fun k hk hn=>?_⟩
  rw[mE,setRow_other _ _ _ _ hn,oU,setRow_other _ _ _ _ hn];rfl
 have HR:=Hd dP;have HT:=Hd yg;clear dP yg jM mE yI eT pQ hg hb h1 h2 oU GV xL mQ mG gV vv;go_wp2_with (simp only[Pk]);go_region_law (refine step_copy_runI rfl _ _ 52 52 rfl _ _ (by simp[Act.eval,Act.put]) (by simp[Act.eval,Act.put]) (aaT _ _ _) ?_)
 go_wp2_with (at_builtin;refine wpList_copy_runI _ rfl _ _ 52 52 rfl _ _ rfl rfl (aed _ _) ?_)
 go_ret;exact⟨_,rfl,HR.out,HT.out,rfl⟩
theorem Q9(w:World)(base g cap n i vb:Nat)(cur:Array Value)(xs:List Value)(y0 y1 y2 y3:Value)(fP:base≤w.heap.size)(hg:Blk w g 56 cur)(hi:i<n)(Ho:n≤cap)(hroom:cap<n+1)(hn:n≤1000)(mQ:cur.size=cap*4)(xL:cur.toList.take (n*4)=xs)(hb:Blk w vb 56 #[y0,y1,y2,y3])
  (h1:∀u∈xs,u.oneCell'=true) (h2:∀u∈[y0,y1,y2,y3],u.oneCell'=true) :
  Calls prog 97 #[.slice (some ⟨g,0,none⟩) n cap,.int .i64 (i:Nat),.slice (some ⟨vb,0,none⟩) 1 1] w fun e w'=>∃v',e=.returned v'∧w'.ownsRow base 56 4 v' (n+1) (xs.take (i*4)++[y0,y1,y2,y3]++xs.drop (i*4))∧Q w w'∧v'.ownBlock=some w.heap.size:=by
 obtain⟨i0,qL,bY,bB,aW⟩:=info_parts tK;obtain rfl:cap=n:=U;have vv:xs.length=cap*4:=by rw[←xL,Mz,Su,mQ];omega
 have gV:(xs.drop (i*4)).length=(cap-i)*4:=by rw[MM,vv];omega
 have Vx:=hg.lt;have hvw:=hb.lt;have gD:IntKind.i64.wrap ((cap:Int)+1)=(cap:Int)+1:=IntWalk.i64_in _ U;have zu:IntKind.i64.wrap ((cap:Int)+1-(i:Int))=((cap+1-i:Nat):Int):=by rw[IntWalk.i64_in _ U];omega
 have eO:IntKind.i64.wrap ((i:Int)+1)=(i:Int)+1:=IntWalk.i64_in _ U;have tX:((i:Int)+1).toNat=i+1:=U;have hb1:(0:Int)≤(i:Int)+1:=U;have eH:(0:Int)≤(i:Int):=U;have sN:¬(cap=i):=U;have gY:¬((i:Int)=(cap:Int)):=U;have tQ:(cap:Int)<(cap:Int)+1:=U;have oZ:(i:Int)≤(cap:Int):=U;have hold:(Builtin.firstCells i0.size i (.slice (some ⟨g,0,none⟩) i cap)).run prog w.drew=.ok (xs.take (i*4)).toArray w.drew:=by
  rw[bB];exact run_firstCells_some w.drew 4 i ⟨g,0,none⟩ i cap (xs.take (i*4)) (by rw[Mz,vv];omega) (fun j u hj=>by
   rw[oD,PF];refine Blk.cell (w:=w.drew) hg _ _ ?_;rw[←xL,VM,VM] at hj;split at hj
   ·split at hj
    ·simpa using hj
    ·cases hj
   ·cases hj)
 have hk:i+(cap+1-i)=cap+1:=U;have OX:=fun (ty:TypeId)=>Lib.run_append_grow_zeros (P:=prog) w 52 3 ty 56 i0 _ .i64 .i64 underlying52 underlying3 qL bY (some ⟨g,0,none⟩) i cap (xs.take (i*4)) hold (cap+1-i) U U U U (by rw[aW];omega) (by rw[aW,hk];exact growslice_fits U U)
 rw[hk] at OX;obtain⟨G,hG⟩:∃G,G=grownCap w (cap+1) cap 56:=⟨_,rfl⟩;have hGn:cap+1≤G:=by rw[hG];exact grownCap_ge w _ _ _
 have hGm:G≤maxLen:=by rw[hG];exact grownCap_le_maxLen w (cap+1) cap _ (by unfold maxLen;omega)
 have amJ:G≤9223372036854775807:=hGm;rw[←hG] at OX;obtain⟨TJ,YN⟩:∃R:Array Value,R=(xs.take (i*4)).toArray++Builtin.zeroCells (Value.agg #[ah [],.bool false,.int .i64 0,.slice none 0 0]).cells (cap+1-i)++Builtin.zeroCells (Value.agg #[ah [],.bool false,.int .i64 0,.slice none 0 0]).cells (G-(cap+1)):=⟨_,rfl⟩;rw[←YN] at OX;have ZR:TJ.size=G*4:=by
  have e1:=size_zeroCells (Value.agg #[ah [],.bool false,.int .i64 0,.slice none 0 0]).cells (cap+1-i);have e2:=size_zeroCells (Value.agg #[ah [],.bool false,.int .i64 0,.slice none 0 0]).cells (G-(cap+1));rw[show(Value.agg #[ah [],.bool false,.int .i64 0,.slice none 0 0]).cells.size=4 from rfl] at e1 e2
  rw[YN,Array.size_append,Array.size_append,e1,e2,UI,Mz,vv];omega
 have hRt:TJ.toList.take (i*4)=xs.take (i*4):=by
  rw[YN,aef,aef,MY];exact TO (by rw[Mz,vv];omega)
 obtain⟨W1,oU⟩:∃W,W=w.drew.alloc (.cells TJ 56):=⟨_,rfl⟩;rw[←oU] at OX;have q1:Q w W1:=by rw[oU];exact(Q.drew w).trans (Q.alloc w.drew _)
 have eT:Blk W1 w.heap.size 56 TJ:=by rw[oU];exact Blk.new w.drew _ _
 have bN:=hb.stays q1;have jM:=hg.stays q1;have aaU:=fun (ty:TypeId) (dc:Nat)=>vH (P:=prog) (ty:=ty) W1 52 52 56 4 w.heap.size (i*4) (cap+1-i) dc ⟨vb,0,none⟩ 1 1 TJ 56 [y0,y1,y2,y3] underlying52 II eT (by rw[show Nat.min 1 (cap+1-i)=1 by simp only[adL];split<;>omega];rfl) (fun j u hj=>by rw[oD,PF];exact bN.cell _ _ (by simpa using hj)) (by simp[ZR];omega) h2
 obtain⟨L2,ZT⟩:∃L,L=splice TJ.toList (i*4) [y0,y1,y2,y3]:=⟨_,rfl⟩;have fF:L2.length=G*4:=by rw[ZT,length_splice _ _ _ (by simp[ZR];omega),Su,ZR]
 rw[←ZT] at aaU;obtain⟨W2,mE⟩:∃W,W=W1.setRow w.heap.size L2.toArray:=⟨_,rfl⟩;simp only[←mE] at aaU;have t2:ae (fun k=>k=w.heap.size) W1 W2:=⟨by rw[mE];rfl,by rw[mE];rfl,by rw[mE];rfl,by rw[mE];simp,fun k hk hn=>by rw[mE];exact setRow_other _ _ _ _ hn⟩
 have nu:Blk W2.drew w.heap.size 56 L2.toArray:=by rw[mE];exact setRow_heap W1 _ _ _ _ _ eT
 have lV:Blk W2.drew g 56 cur:=(t2.block g jM.lt U).trans jM;have aee:=fun (ty:TypeId) (dc sc:Nat)=>vH (P:=prog) (ty:=ty) W2.drew 52 52 56 4 w.heap.size ((i+1)*4) (cap-i) dc ⟨g,i*4,none⟩ (cap-i) sc L2.toArray 56 (xs.drop (i*4)) underlying52 II nu (by rw[gV,show Nat.min (cap-i) (cap-i)=cap-i by simp only[adL];split<;>omega]) (fun j u hj=>by
  rw[oD];refine lV.cell _ _ ?_;rw[VC,←xL,VM] at hj;split at hj
  ·simpa using hj
  ·cases hj) (by simp only[gV,UI,fF];omega) (fun u hu=>h1 u (Z3 hu))
 obtain⟨W3,Pm⟩:∃W,W=W2.drew.setRow w.heap.size (splice L2 ((i+1)*4) (xs.drop (i*4))).toArray:=⟨_,rfl⟩;simp only[←Pm] at aee;have LK:Blk W3 w.heap.size 56 (splice L2 ((i+1)*4) (xs.drop (i*4))).toArray:=by rw[Pm];exact setRow_heap W2.drew _ _ _ _ _ nu
 have dP:W3.ownsRow base 56 4 (.slice (some ⟨w.heap.size,0,none⟩) (cap+1) G) (cap+1) (xs.take (i*4)++[y0,y1,y2,y3]++xs.drop (i*4)):=by
  refine⟨by simp only[Δ,Mz,gV,vv,Mu,OF];omega,.inr ⟨w.heap.size,G,_,rfl,fP,LK,hGn,hGm,by rw[UI,length_splice _ _ _ (by rw[gV,fF];omega),fF],?_⟩⟩
  have:=Xu TJ.toList xs [y0,y1,y2,y3] (i*4) (cap*4) 4 hRt vv U rfl (by rw[Su,ZR];omega)
  rw[show i*4+4=(i+1)*4 by omega,←ZT] at this
  rw[show(cap+1)*4=cap*4+4 by omega]
  exact this
 have hq:Q w W3:=by
  have t3:ae (fun k=>k=w.heap.size) W2 W3:=⟨by rw[Pm];rfl,by rw[Pm];rfl,by rw[Pm];rfl,by rw[Pm];simp,fun k hk hn=>by rw[Pm];exact setRow_other _ _ _ _ hn⟩
  exact(t2.trans t3).below q1 q1.size (fun k hk=>U)
 have HR:=Hd dP;have HQ:=Hd hq;have TK:¬(G=i):=U;have Ig:¬(G=i+1):=U;have hG3:(i:Int)≤((cap+1:Nat):Int):=U;have hG4:(i:Int)+1≤((cap+1:Nat):Int):=U;clear dP hq LK Pm lV nu t2 mE fF ZT jM bN eT q1 oU hRt ZR YN hG hk hold qL bY bB aW h1 h2 hb hg mQ xL vv gV fP;go_enter func97,ntmps97;go_wp2_with (first
  | (at_builtin;refine Lib.wpList_append_run _ rfl _ _ _ _ rfl _ _ rfl rfl _ _ (OX _) ?_)
  | (at_builtin;refine wpList_copy_runI _ rfl _ _ 52 52 rfl _ _ rfl rfl (aaU _ _) ?_))
 go_region_law (refine step_copy_runI rfl _ _ 52 52 rfl _ _ (by simp[Act.eval,Act.put]) (by simp[Act.eval,Act.put]) (aee _ _ _) ?_)
 all_goals
  go_wp2_with fail;go_ret;exact⟨_,rfl,HR.out,HQ.out,rfl⟩
theorem U5(w:World)(base:Nat)(v:Value)(n i:Nat)(xs:List Value)(vb:Nat)(y0 y1 y2 y3:Value)(h:w.ownsRow base 56 4 v n xs)(hi:i≤n)(hb:Blk w vb 56 #[y0,y1,y2,y3])(aU:v.ownBlock≠some vb)
  (h1:∀u∈xs,u.oneCell'=true) (h2:∀u∈[y0,y1,y2,y3],u.oneCell'=true) (hn:n≤1000) (fP:base≤w.heap.size) :
  Calls prog 97 #[v,.int .i64 (i:Nat),.slice (some ⟨vb,0,none⟩) 1 1] w fun e w'=>∃v',e=.returned v'∧w'.ownsRow base 56 4 v' (n+1) (xs.take (i*4)++[y0,y1,y2,y3]++xs.drop (i*4))∧ae (fun k=>v.ownBlock=some k) w w'∧mS w v v':=by
 by_cases he:i=n
 ·subst he
  have hl:xs.length=i*4:=h.1;rw[←hl,N5,Wk,ON];exact U4 w base v i xs vb y0 y1 y2 y3 h hb h2 hn fP
 ·rcases h.2 with ⟨rfl,rfl⟩|⟨g,cap,cur,rfl,lF,hg,Ho,dJ,mQ,Mr⟩
  ·omega
  ·by_cases hr:n+1≤cap
   ·exact(PS w base g cap n i vb cur xs y0 y1 y2 y3 lF hg U hr dJ mQ Mr hb (fun e=>aU (by rw[e];rfl)) h1 h2).mono fun e w' hx=>by
     obtain⟨v',e1,e2,e3,e4⟩:=hx;exact⟨v',e1,e2,e3.mono fun k hk=>by rw[hk];rfl,.inl e4⟩
   ·exact(Q9 w base g cap n i vb cur xs y0 y1 y2 y3 fP hg U Ho U hn mQ Mr hb h1 h2).mono fun e w' hx=>by
     obtain⟨v',e1,e2,e3,e4⟩:=hx;exact⟨v',e1,e2,ae.br e3,.inr e4⟩
theorem Bb{P:Program}{ops:Array Oper}{o:Oper}{a:Act}{w:World}{K:Act→World→Prop}{Q:Exit→Act→World→Prop}{E:Prop}
  (hg:o.guard=none) (d x:Operand) (dT sT:TypeId) (fB:o.op=Op.call { callee:=Callee.builtin Builtin.append,args:=#[d,x],argTypes:=#[dT,sT] })
  (v u:Value) (hd:a.eval d=v) (hx:a.eval x=u) {v':Value} {w':World} (hr:(Builtin.append_ #[dT,sT] o.type #[v,u]).run P w=.ok v' w') (hK:K (a.put o.dst v') w') :
  if Region.wanted o (yielded ops a.tmps)=true then Oper.wp P o a w K Q else E:=by
 have hw:Region.wanted o (yielded ops a.tmps)=true:=by simp[Region.wanted,hg]
 rw[Φ hw];unfold Oper.wp;simp[execOp,fB,resolve,invoke,builtin,hd,hx,hr,Result.andThen];exact hK
theorem B2(w:World):(zeroValue 56).run prog w=.ok (.agg #[ah [],.bool false,.int .i64 0,.slice none 0 0]) w:=by
 obtain⟨i0,hi,bY,bB,aW⟩:=info_parts tK;simp[zeroValue,typeInfo,hi,bY]
theorem U6(w:World)(base:Nat)(v:Value)(n i:Nat)(xs:List Value)(h:w.ownsRow base 56 4 v n xs)(hi:i<n)(h1:∀u∈xs,u.oneCell'=true)(hn:n≤1000):
  Calls prog 127 #[v,.int .i64 (i:Nat),.int .i64 ((i:Int)+1)] w fun e w'=>∃v',e=.returned v'∧v'.ownBlock=v.ownBlock∧w'.ownsRow base 56 4 v' (n-1) (xs.take (i*4)++xs.drop ((i+1)*4))∧ae (fun k=>v.ownBlock=some k) w w':=by
 rcases h.2 with ⟨rfl,rfl⟩|⟨g,cap,cur,rfl,lF,hg,Ho,dJ,mQ,xL⟩
 ·omega
 obtain⟨i0,qL,bY,bB,aW⟩:=info_parts tK;have vv:xs.length=n*4:=h.1;have aiH:cap≤9223372036854775807:=dJ;have gV:(xs.drop ((i+1)*4)).length=(n-(i+1))*4:=by rw[MM,vv];omega
 have pQ:Blk w.drew g 56 cur:=hg;have TL:=fun (ty:TypeId) (a:Addr) (c:Nat) (ha:n-(i+1)=0∨a=⟨g,(i+1)*4,none⟩)=>run_append_room (P:=prog) w.drew 52 ty 56 i0 underlying52 qL g i cap cur pQ a (n-(i+1)) c (xs.drop ((i+1)*4)) (by rw[gV,bB]) (fun j u hj=>by
  rcases ha with ha|rfl
  ·have:=(Pi.1 hj).1
   rw[gV,ha] at this;omega
  ·rw[oD]
   refine pQ.cell _ _ ?_;rw[VC,←xL,VM] at hj;split at hj
   ·simpa using hj
   ·cases hj) (fun u hu=>h1 u (Z3 hu)) U (by rw[gV,bB,mQ];omega)
 simp only[bB,show i+(n-(i+1))=n-1 by omega] at TL
 obtain⟨L1,GV⟩:∃L,L=cur.toList.take (i*4)++xs.drop ((i+1)*4)++cur.toList.drop (i*4+(xs.drop ((i+1)*4)).length):=⟨_,rfl⟩;have mG:L1.length=cap*4:=by rw[GV];simp only[Δ,Mz,MM,Su,mQ,vv];omega
 rw[←GV] at TL;obtain⟨W1,oU⟩:∃W,W=w.drew.setRow g L1.toArray:=⟨_,rfl⟩;rw[←oU] at TL;have eT:Blk W1 g 56 L1.toArray:=by rw[oU];exact setRow_heap w.drew g cur _ _ _ hg
 have bL:=fun (ty:TypeId) (c:Nat)=>MV (P:=prog) W1 52 56 ty _ underlying52 B2 g ((n-1)*4) 1 c Z L1.toArray 56 eT (by rw[show(Value.agg #[ah [],.bool false,.int .i64 0,.slice none 0 0]).cells.size=4 from rfl,UI,mG];omega) Z
 obtain⟨zs,jl⟩:∃zs,zs=(Builtin.zeroCells (Value.agg #[ah [],.bool false,.int .i64 0,.slice none 0 0]).cells 1).toList:=⟨_,rfl⟩;have xX:zs.length=4:=by rw[jl,Su,size_zeroCells];rfl
 rw[←jl] at bL;obtain⟨W2,mE⟩:∃W,W=W1.setRow g (splice L1 ((n-1)*4) zs).toArray:=⟨_,rfl⟩;simp only[←mE] at bL;have jM:Blk W2 g 56 (splice L1 ((n-1)*4) zs).toArray:=by rw[mE];exact setRow_heap W1 g _ _ _ _ eT
 have dP:W2.ownsRow base 56 4 (.slice (some ⟨g,0,none⟩) (n-1) cap) (n-1) (xs.take (i*4)++xs.drop ((i+1)*4)):=by
  refine⟨by simp only[Δ,Mz,gV,vv];omega,.inr ⟨g,cap,_,rfl,lF,jM,U,dJ,by rw[UI,length_splice _ _ _ (by rw[xX,mG];omega),mG],?_⟩⟩
  have:=Xv cur.toList xs zs (i*4) 4 (n*4) xL vv U xX (by rw[Su,mQ];omega)
  rw[show i*4+4=(i+1)*4 by omega,←GV,show n*4-4=(n-1)*4 by omega] at this
  exact this
 have yg:ae (fun k=>(Value.slice (some ⟨g,0,none⟩) n cap).ownBlock=some k) w W2:=by
  refine⟨by rw[mE,oU];rfl,by rw[mE,oU];rfl,by rw[mE,oU];rfl,by rw[mE,oU];simp,fun k hk hn=>?_⟩
  have hn:k≠g:=fun e=>hn (by rw[e];rfl)
  rw[mE,setRow_other _ _ _ _ hn,oU,setRow_other _ _ _ _ hn];rfl
 have HR:=Hd dP;have HT:=Hd yg;have eO:IntKind.i64.wrap ((i:Int)+1)=(i:Int)+1:=IntWalk.i64_in _ U;have tX:((i:Int)+1).toNat=i+1:=U;have hb1:(0:Int)≤(i:Int)+1:=U;have eH:(0:Int)≤(i:Int):=U;have bN:(i:Int)≤(i:Int)+1:=U;have gI:(i:Int)+1≤(n:Int):=U;have sN:¬((i:Int)=(i:Int)+1):=U;have gY:(i:Int)≤(cap:Int):=U;have tQ:(n:Int)≤(cap:Int):=U;have Tn:n-(n-1)=1:=U;have hb8:¬(cap=n-1):=U;have hb9:n-1≤n:=U;have amK:(0:Int)≤((n-1:Nat):Int):=U;have amL:((n-1:Nat):Int)≤(n:Int):=U;have amM:¬(cap=i):=U;clear dP yg jM mE xX jl eT oU mG GV pQ gV vv xL mQ hg h h1 qL bY bB aW;go_enter func127,ntmps127;go_wp2_with fail;by_cases hcj:cap=i+1
 ·have YO:=fun (ty:TypeId) (c:Nat)=>TL ty ⟨g,0,none⟩ c (.inl U)
  go_region_law (refine Bb rfl (.tmp 22) (.tmp 25) 52 52 rfl (.slice (some ⟨g,0,none⟩) i cap) (.slice (some ⟨g,0,none⟩) (n-(i+1)) (cap-(i+1))) (by simp[Act.eval,Act.put,hcj]) (by simp[Act.eval,Act.put,hcj]) (YO _ _) ?_)
  all_goals
   go_wp2_with fail;go_ret;exact⟨.slice (some ⟨g,0,none⟩) (n-1) cap,by rw[hcj];rfl,rfl,HR.out,HT.out⟩
 ·have YO:=fun (ty:TypeId) (c:Nat)=>TL ty ⟨g,(i+1)*4,none⟩ c (.inr rfl)
  go_region_law (refine Bb rfl (.tmp 22) (.tmp 25) 52 52 rfl (.slice (some ⟨g,0,none⟩) i cap) (.slice (some ⟨g,(i+1)*4,none⟩) (n-(i+1)) (cap-(i+1))) (by simp[Act.eval,Act.put]) (by simp[Act.eval,Act.put]) (YO _ _) ?_)
  all_goals
   go_wp2_with fail;go_ret;exact⟨_,rfl,rfl,HR.out,HT.out⟩
end
section
open Go.RowKit
theorem Jc(vs:List Value):∀(l:List ax) (i:Nat),(dH vs l).take (i*4)=dH (vs.take i) (l.take i):=by
 induction vs with
 | nil=>intro l i;simp[dH]
 | cons a vs ih=>intro l i;cases l with
  | nil=>simp[dH]
  | cons f l=>cases i with
   | zero=>simp[dH]
   | succ i=>rw[show(i+1)*4=i*4+1+1+1+1 by omega];simp[dH,ih]
theorem Jd(vs:List Value):∀(l:List ax) (i:Nat),vs.length=l.length→(dH vs l).drop (i*4)=dH (vs.drop i) (l.drop i):=by
 induction vs with
 | nil=>intro l i h;cases l with
  | nil=>simp[dH]
  | cons f l=>simp at h
 | cons a vs ih=>intro l i h;cases l with
  | nil=>simp at h
  | cons f l=>cases i with
   | zero=>simp[dH]
   | succ i=>rw[show(i+1)*4=i*4+1+1+1+1 by omega];simp[dH,ih l i (by simpa using h)]
theorem Dl(vs:List Value):∀(l:List ax),(∀(i:Nat) (a:Value) (f:ax),vs[i]?=some a→l[i]?=some f→∃p n c,a=Value.slice p n c)→∀u∈dH vs l,u.oneCell'=true:=by
 induction vs with
 | nil=>intro l _ u hu;simp[dH] at hu
 | cons a vs ih=>intro l h u hu;cases l with
  | nil=>simp[dH] at hu
  | cons f l =>
   obtain⟨p,n,c,e⟩:=h 0 a f rfl rfl;subst e;simp only[dH,NL] at hu;rcases hu with rfl|rfl|rfl|rfl|hu
   ·rfl
   ·rfl
   ·rfl
   ·rfl
   ·exact ih l (fun i x y h1 h2=>h (i+1) x y (by simpa using h1) (by simpa using h2)) u hu
theorem SlP.value{P:Nat→Prop}{w:World}{v:Value}{n size:Nat}{xs:List Value}(h:SlP P w v n size xs):∃p m c,v=Value.slice p m c:=by
 obtain⟨⟨_,a,cap,rfl,_⟩,_⟩:=h;exact⟨_,_,_,rfl⟩
def cA(P:Nat→Prop)(w:World)(base:Nat)(v:Value)(l:List ax):Prop:=∃vs:List Value,vs.length=l.length∧w.ownsRow base 56 4 v l.length (dH vs l)∧∀(i:Nat) a f,vs[i]?=some a→l[i]?=some f→SlP P w a f.ext.length 2 (ext f.ext)
section
variable {P R:Nat→Prop} {w w':World} {base:Nat} {v:Value} {l:List ax}
theorem cA.p(h:cA P w base v l)(h1:∀k,P k→R k)(h2:∀k,base≤k→R k):cn R w v l:=by
 obtain⟨vs,e1,e2,e3⟩:=h;exact⟨vs,e1,(SlP.cy e2).mono (fun k hk _=>h2 k hk.1) Z,fun i a f ha hf=>(e3 i a f ha hf).mono (fun k hk _=>h1 k hk) Z⟩
theorem cA.q(h:cA P w base v l)(q:Q w w'):cA P w' base v l:=by
 obtain⟨vs,e1,e2,e3⟩:=h;exact⟨vs,e1,e2.kept (row:=none) ⟨q.os,q.tape,q.output,q.size,fun k hk _=>q.block k hk⟩ (by cases v.ownBlock<;>simp),fun i a f ha hf=>(e3 i a f ha hf).bh (ae.br (own:=fun _=>False) q) (fun _ _ x=>x)⟩
theorem cA.low{base':Nat}(h:cA P w base v l)(hb:base'≤base):cA P w base' v l:=by
 obtain⟨vs,e1,e2,e3⟩:=h;exact⟨vs,e1,gT e2 hb,e3⟩
theorem cA.val(h:cA P w base v l):∃a cap,v=.slice a l.length cap:=by
 obtain⟨vs,e1,e2,e3⟩:=h;obtain⟨a,cap,e,_⟩:=aY e2;exact⟨a,cap,e⟩
theorem cA.lt(h:cA P w base v l)(g:Nat)(hg:v.ownBlock=some g):base≤g∧g<w.heap.size:=by
 obtain⟨vs,e1,e2,e3⟩:=h;exact e2.lt g hg
theorem Xz(h:cn P w v l)(hl:l.length≤1000):
  Calls prog 55 #[v] w fun e w'=>∃v',e=.returned v'∧cA P w' w.heap.size v' l∧Q w w':=by
 obtain⟨vs,e1,e2,e3⟩:=h;exact(Xx v l.length (dH vs l) w e2.1 (Dl vs l fun i a f ha hf=>(e3 i a f ha hf).value) U).mono fun e w' hx=>by
  obtain⟨v',r1,r2,r3⟩:=hx;exact⟨v',r1,⟨vs,e1,r2,fun i a f ha hf=>(e3 i a f ha hf).bh (ae.br (own:=fun _=>False) r3) (fun _ _ x=>x)⟩,r3⟩
theorem Je(h:cA P w base v l)(hP:∀k,P k→k<base)(hl:l.length≤1000)(hb:base≤w.heap.size)(i:Nat)(hi:i≤l.length)(f:ax)(a:Value)(ha:SlP P w a f.ext.length 2 (ext f.ext))(vb:Nat)(Bz:Blk w vb 56 #[ah f.name,.bool f.sl,.int .i64 (f.size:Nat),a])(aU:v.ownBlock≠some vb):
  Calls prog 97 #[v,.int .i64 (i:Nat),.slice (some ⟨vb,0,none⟩) 1 1] w fun e w'=>∃v',e=.returned v'∧cA P w' base v' (l.take i++f::l.drop i)∧ae (fun k=>base≤k∧v.ownBlock=some k) w w'∧mS w v v':=by
 obtain⟨vs,e1,e2,e3⟩:=h;obtain⟨p,n,c,rfl⟩:=ha.value;have ay:=e2.lt;refine(U5 w base v l.length i (dH vs l) vb _ _ _ _ e2 hi Bz aU (Dl vs l fun i a f ha hf=>(e3 i a f ha hf).value) (fun u hu=>by simp at hu;rcases hu with rfl|rfl|rfl|rfl<;>rfl) hl hb).mono fun e w' hx=>?_
 obtain⟨v',r1,r2,r3,r4⟩:=hx;have t:ae (fun k=>base≤k∧v.ownBlock=some k) w w':=r3.mono fun k hk=>⟨(ay k hk).1,hk⟩
 refine⟨v',r1,⟨vs.take i++Value.slice p n c::vs.drop i,?_,?_,fun j u g hu hg=>?_⟩,t,r4⟩
 ·simp only[Δ,Mz,Mu,MM,e1]
 ·rw[Jc,Jd _ _ _ e1] at r2
  rw[zO _ _ _ _ (by simp[e1])]
  rw[show(l.take i++f::l.drop i).length=l.length+1 by simp only[Δ,Mz,Mu,MM];omega]
  rw[MY] at r2;exact r2
 ·have lI:(vs.take i).length=i:=by rw[Mz,e1];omega
  have oP:(l.take i).length=i:=by rw[Mz];omega
  have sM:∀{u:Value} {g:ax},SlP P w u g.ext.length 2 (ext g.ext)→SlP P w' u g.ext.length 2 (ext g.ext):=fun hs=>hs.bh t (fun k hk hc=>by have:=hP k hk;have:=hc.1;omega)
  rcases abl j i with hj|hj|hj
  ·rw[TX U,VM,Φ hj] at hu hg
   exact sM (e3 j u g hu hg)
  ·subst hj
   rw[PH U,lI,abu] at hu;rw[PH U,oP,abu] at hg;simp only[W8,N6] at hu hg;subst hu;subst hg;exact sM ha
  ·obtain⟨m,rfl⟩:∃m,j=i+1+m:=⟨j-(i+1),U⟩
   rw[PH U,lI,show i+1+m-i=m+1 by omega,Xs,VC] at hu
   rw[PH U,oP,show i+1+m-i=m+1 by omega,Xs,VC] at hg
   exact sM (e3 _ u g hu hg)
theorem Dm(h:cA P w base v l)(hP:∀k,P k→k<base)(hl:l.length≤1000)(i:Nat)(hi:i<l.length):
  Calls prog 127 #[v,.int .i64 (i:Nat),.int .i64 ((i:Int)+1)] w fun e w'=>∃v',e=.returned v'∧v'.ownBlock=v.ownBlock∧cA P w' base v' (l.eraseIdx i)∧ae (fun k=>v.ownBlock=some k) w w':=by
 obtain⟨vs,e1,e2,e3⟩:=h;have ay:=e2.lt;refine(U6 w base v l.length i (dH vs l) e2 hi (Dl vs l fun i a f ha hf=>(e3 i a f ha hf).value) hl).mono fun e w' hx=>?_
 obtain⟨v',r1,r0,r2,r3⟩:=hx;refine⟨v',r1,r0,⟨vs.eraseIdx i,?_,?_,fun j u g hu hg=>?_⟩,r3⟩
 ·rw[abG U,abG hi,e1]
 ·rw[Jc,Jd _ _ _ e1] at r2
  rw[WN,WN,zO _ _ _ _ (by simp[e1]),←WN,abG hi]
  exact r2
 ·have sM:∀{u:Value} {g:ax},SlP P w u g.ext.length 2 (ext g.ext)→SlP P w' u g.ext.length 2 (ext g.ext):=fun hs=>hs.bh r3 (fun k hk hc=>by have:=hP k hk;have:=(ay k hc).1;omega)
  rw[List.getElem?_eraseIdx] at hu hg;split at hu
  ·rename_i hj
   rw[Φ hj] at hg;exact sM (e3 _ u g hu hg)
  ·rename_i hj
   rw[η hj] at hg;exact sM (e3 _ u g hu hg)
end
end
section
open Go.RowKit
abbrev Pw(G:Nat→Prop)(fb:Nat)(w:World):Nat→Prop:=fun k=>¬own G fb k∧k<w.heap.size
section
variable {w W X:World} {F G:Nat→Prop} {fb sb b:Nat} {φ:FsL} {K:Nat} {v:Value}
theorem FsG.fy(h:FsG w F fb sb b φ K v):∀k,own F fb k→k<w.heap.size:=fun k hk=>hk.elim (h.st.lt k) (fun e=>by rw[e];exact h.box.lt)
theorem FsG.rows(h:FsG w F fb sb b φ K v):cn (Pw F fb w) w v φ.l:=h.files.mono fun k a b=>⟨a,b⟩
theorem FsG.js(h:FsG W G fb sb b φ K v)(hl:φ.l.length≤1000)(q:Q W X):
  Calls prog 55 #[v] X fun e w'=>∃v',e=.returned v'∧cA (Pw G fb W) w' X.heap.size v' φ.l∧Q X w' :=
 Xz (h.rows.q q) hl
theorem FsG.mT{KI first:Nat}{fr:List (List WrL)}{C:Nat→Bytes}{lv:Value}{l':List ax}(h:FsG W G fb sb b φ K v)(h2:∀k,G k→grow F w W k)(h3:ae (own F fb) w W)(q:Q W X)(lI:cn (fun k=>¬own G fb k) X lv l')(hd:cL first φ.st.n l')(hs:eI KI φ.st fr C)(gM:KI<18446744073709551616)(hp:φ.packed=[]∨φ.packed.length=3072)(hK:K+20≤1000000000000000000):
  Calls prog 96 #[au fb,lv] X fun e w'=>e=.returned (.int .i64 (φ.st.dir φ.packed l').2)∧FsR w w' F fb sb b (φ.wr l') (K+12)∧ae (own G fb) X w' :=
 (Aw X G fb sb b φ K _ lv l' (h.keep q) lI hd hs gM hp hK).mono fun e w' hx=>⟨hx.1,FsR.seq (fun k hk=>(h2 k hk).imp id fun hk=>⟨hk.1,Ψ hk.2 q.size⟩) (h3.trans (ae.br q)) hx.2,by obtain⟨H,_,_,t⟩:=hx.2;exact t⟩
theorem cA.own{base:Nat}{u:Value}{l:List ax}(h:FsG W G fb sb b φ K v)(hw:cA (Pw G fb W) X base u l)(hb:W.heap.size≤base):cn (fun k=>¬own G fb k) X u l :=
 hw.p (fun k hk=>hk.1) (fun k hk hc=>by have:=h.fy k hc;omega)
end
theorem Ra(w W:World)(F:Nat→Prop)(fb sb b:Nat)(φ:FsL)(K:Nat)(v:Value)(s:Bytes){KI first:Nat}{fr:List (List WrL)}{C:Nat→Bytes}(h:FsK w W F fb sb b φ K v)(hl:φ.l.length≤1000)(hr:φ.l.Pairwise fun a b=>a.name<b.name)
  (hd:cL first φ.st.n (jE φ.l ⟨s,false,0,[]⟩)) (hs:eI KI φ.st fr C) (gM:KI<18446744073709551616) (hp:φ.packed=[]∨φ.packed.length=3072) (hK:K+20≤1000000000000000000) :
  Calls prog 45 #[.agg #[au fb,ah s]] W fun e w'=>e=.returned (.int .i64 (φ.st.dir φ.packed (jE φ.l ⟨s,false,0,[]⟩)).2)∧FsR w w' F fb sb b (φ.wr (jE φ.l ⟨s,false,0,[]⟩)) (K+12):=by
 obtain⟨l',Jw⟩:∃l',l'=jE φ.l ⟨s,false,0,[]⟩:=⟨_,rfl⟩;rw[←Jw] at hd ⊢;obtain⟨G,hG,h2,h3⟩:=h;have bW:=Gm φ.l s;have eP:∀X,Q W X→Calls prog 91 #[v,ah s] X fun e w'=>e=.returned (.tuple #[.int .i64 (aA φ.l s:Nat),.bool (isF φ.l s)])∧Q X w':=fun X q=>J8 _ φ.l s X (hG.keep q).files.s U hr
 have oZ:∀(Y X:World) (v0:Value) (vb:Nat),Q W Y→Q Y X→cA (Pw G fb W) X Y.heap.size v0 φ.l→Blk X vb 56 #[ah s,.bool false,.int .i64 0,.slice none 0 0]→v0.ownBlock≠some vb →
   Calls prog 97 #[v0,.int .i64 (aA φ.l s:Nat),.slice (some ⟨vb,0,none⟩) 1 1] X fun e w'=>∃v',e=.returned v'∧cn (fun k=>¬own G fb k) w' v' l'∧Q Y w':=fun Y X v0 vb q0 q h6 h7 h8=>by
  refine(Je h6 (fun k hk=>Ψ hk.2 q0.size) hl q.size (aA φ.l s) bW ⟨s,false,0,[]⟩ (.slice none 0 0) ⟨⟨rfl,none,0,rfl,fun hn=>by simp at hn⟩,fun hn=>by simp at hn⟩ vb h7 h8).mono fun e w' hx=>?_
  obtain⟨v',r1,r2,r3,_⟩:=hx;exact⟨v',r1,by rw[Jw];exact r2.own hG q0.size,r3.below q q.size (fun k hk=>hk.1)⟩
 obtain⟨cs,mQ⟩:∃cs:Obj,cs=.cells #[ah s,.bool false,.int .i64 0,.slice none 0 0] 56:=⟨_,rfl⟩;have cO:∀Y,Q W Y→Calls prog 55 #[v] Y.drew fun e w4=>∃v',e=.returned v'∧Q Y w4 ∧
   Hid (Calls prog 97 #[v',.int .i64 (aA φ.l s:Nat),.slice (some ⟨w4.heap.size,0,none⟩) 1 1] (w4.alloc cs) fun e w'=>∃v',e=.returned v'∧cn (fun k=>¬own G fb k) w' v' l'∧Q Y w'):=fun Y q=>(hG.js hl (q.trans (Q.drew Y))).mono fun e w4 hx=>by
  obtain⟨v',r1,r2,r3⟩:=hx;have q4:Q Y w4:=(Q.drew Y).trans r3;exact⟨v',r1,q4,Hd (oZ Y _ v' _ q (q4.trans (Q.alloc w4 cs)) ((r2.low (Ω Y.heap.size)).q (Q.alloc w4 cs)) (by rw[mQ];exact Blk.new w4 _ _) (fun e=>absurd (r2.lt _ e).2 (US _)))⟩
 have dI:∀Y,Q W Y→Calls prog 55 #[v] (Y.alloc cs).drew fun e w4=>∃v',e=.returned v'∧Q Y w4 ∧
   Hid (Calls prog 97 #[v',.int .i64 (aA φ.l s:Nat),.slice (some ⟨Y.heap.size,0,none⟩) 1 1] w4 fun e w'=>∃v',e=.returned v'∧cn (fun k=>¬own G fb k) w' v' l'∧Q Y w'):=fun Y q=>(hG.js hl (q.trans ((Q.alloc Y cs).trans (Q.drew _)))).mono fun e w4 hx=>by
  obtain⟨v',r1,r2,r3⟩:=hx;have qy:Q Y (Y.alloc cs).drew:=(Q.alloc Y cs).trans (Q.drew _);have q4:Q Y w4:=qy.trans r3;have bP:Y.heap.size<(Y.alloc cs).drew.heap.size:=by show Y.heap.size<(Y.alloc cs).heap.size;rw[World.size_alloc];exact acu _
  have hb:Blk (Y.alloc cs).drew Y.heap.size 56 #[ah s,.bool false,.int .i64 0,.slice none 0 0]:=by rw[mQ];exact Blk.new Y _ _
  exact⟨v',r1,q4,Hd (oZ Y w4 v' Y.heap.size q q4 (r2.low (aez bP)) (hb.stays r3) (fun e=>by have:=(r2.lt _ e).1;omega))⟩
 subst mQ;have jB:∀(X:World) (lv:Value),Q W X→cn (fun k=>¬own G fb k) X lv l'→Calls prog 96 #[au fb,lv] X fun e w'=>e=.returned (.int .i64 (φ.st.dir φ.packed l').2)∧FsR w w' F fb sb b (φ.wr l') (K+12)∧ae (own G fb) X w':=fun X lv q lI=>hG.mT h2 h3 q lI hd hs gM hp hK
 have pX:¬own G fb W.heap.size:=fun hc=>by have:=hG.fy _ hc;omega
 obtain⟨c0,c1,c2,c3,_⟩:=hG.box.c4;obtain⟨la,lc,rfl⟩:∃a c,v=.slice a φ.l.length c:=by
  obtain⟨a,c,e,_⟩:=hG.files.s.value;exact⟨a,c,e⟩
 have iW:=Hd eP;have vg:=Hd cO;have xI:=Hd dI;have vC:=Hd jB;have FI:=Hd pX;clear eP cO dI oZ jB pX hG h2 h3 hd hs hl hr Jw bW;generalize aA φ.l s=pl at *;generalize isF φ.l s=isf at *;generalize (φ.st.dir φ.packed l').2=res at *;generalize φ.wr l'=ψ at *;obtain⟨wa,dO⟩:∃wa,wa=W.alloc (.cells #[au fb,ah s] 94):=⟨_,rfl⟩;have qa:Q W wa:=by rw[dO];exact Q.alloc _ _
 have bZ:Blk wa W.heap.size 94 #[au fb,ah s]:=by rw[dO];exact Blk.new W _ _
 obtain⟨d0,d1,_⟩:=bZ.c2;replace c2:=aj qa c2;go_enter func45,ntmps45;go_wp2_with fail;rw[←dO];clear dO c0 c1 c3 bZ;have KK:=Hd qa
 (go_region_held3 (fun w'=>w'.cell? ⟨W.heap.size,0,none⟩=some (au fb)∧w'.cell? ⟨W.heap.size,1,none⟩=some (ah s)∧w'.cell? ⟨fb,2,none⟩=some (.slice la φ.l.length lc))
  (first|exact g0|exact⟨d0,d1,c2⟩)
  (first
   | (go_at_call 91;with_reducible refine(iW.out _ (by repeat (first|with_reducible exact KK.out|with_reducible apply Qs.dr))).mono ?_;rintro e w3 ⟨rfl,q3⟩;have s':Q wa w3:=Q.trans (by repeat (first|with_reducible exact Q.refl _|with_reducible apply Qs.dr)) q3;have g0:=three s' d0 d1 c2;clear KK;have KK:=Hd (qa.trans s');clear s' q3)))
 clear c2 d0 d1 qa iW;obtain⟨d0,d1,c2⟩:=g0;have Q3:=Hd KK.out;go_wp2_with fail;clear KK;have KK:=Hd (Q.refl w3);have c2d:w3.drew.cell? ⟨fb,2,none⟩=some (.slice la φ.l.length lc):=c2;have c2a:∀o,(w3.alloc o).drew.cell? ⟨fb,2,none⟩=some (.slice la φ.l.length lc):=fun o=>aj ((Q.alloc _ _).trans (Q.drew _)) c2
 have c2b:∀o,(w3.alloc o).cell? ⟨fb,2,none⟩=some (.slice la φ.l.length lc):=fun o=>aj (Q.alloc _ _) c2
 have p0:=fun X (q:Q w3 X)=>aj q d0;have p1:=fun X (q:Q w3 X)=>aj q d1;have P0:=Hd p0;have P1:=Hd p1;clear p0 p1;have a0:∀o,(w3.alloc o).drew.cell? ⟨W.heap.size,0,none⟩=some (au fb):=fun o=>aj ((Q.alloc _ _).trans (Q.drew _)) d0
 have b0:∀o,(w3.alloc o).cell? ⟨W.heap.size,0,none⟩=some (au fb):=fun o=>aj (Q.alloc _ _) d0
 (go_region_law (first
   | (go_simp;go_at_call 55;(first|with_reducible refine(vg.out _ Q3.out).mono ?_|with_reducible refine(xI.out _ Q3.out).mono ?_);rintro e w4 ⟨v1,rfl,s',i4⟩;have y0:=P0.out _ s';have y1:=P1.out _ s';have y2:∀o,(w4.alloc o).cell? ⟨W.heap.size,0,none⟩=some (au fb):=fun o=>aj (Q.alloc _ _) y0)
   | (go_simp;go_at_call 97;with_reducible refine i4.out.mono ?_;rintro e w5 ⟨v2,rfl,f2,s5⟩;have z0:=P0.out _ s5;have F2:=Hd f2;have S5:=Hd s5)
   | (go_simp;go_at_call 96;with_reducible refine(vC.out _ _ (Q3.out.trans S5.out) F2.out).mono ?_;rintro e w6 ⟨rfl,f3,t3⟩;have F3:=Hd f3;clear f3 t3)))
 all_goals
  go_wp2_with fail;go_ret;exact⟨rfl,F3.out⟩
end
section
open Go.RowKit
def FOk(φ:FsL):Prop:=φ.st.dead=true∨φ.st.dead=false∧∃KI fr C,bz KI φ fr C∧KI+4<18446744073709551616
theorem Jf(w:World)(F:Nat→Prop)(fb sb b:Nat)(φ:FsL)(K:Nat)(v:Value)(r:StL→TxR)(g:FuncId)(x:Value)(l':List ax){KI:Nat}{fr:List (List WrL)}{C:Nat→Bytes}(h:FsG w F fb sb b φ K v)(hI:bz KI φ fr C)(gM:KI+4<18446744073709551616)
  (eg:∀(args:Array Value) (w:World),(callFunc g args).run prog w=.ok (.enter g args) w) (hr:r φ.st.begin.1=qm φ φ.st.begin.1 l')
  (hw:∀W,FsK w W F fb sb b { φ with st:=φ.st.begin.1 } K v→eI KI φ.st.begin.1 fr C→φ.st.begin.1.n=φ.st.n→Calls prog g #[x] W fun e w'=>e=.returned (.int .i64 (φ.st.begin.1.dir φ.packed l').2)∧FsR w w' F fb sb b (FsL.wr { φ with st:=φ.st.begin.1 } l') (K+12)) :
  Calls prog 44 #[au fb,.func (.func g) #[x] #[]] w fun e w'=>e=.returned (.int .i64 (φ.cx r).2)∧FsR w w' F fb sb b (φ.cx r).1 (K+12):=by
 have hs:=hI.GC;have hn:=fq hI.start.1.j;have ha:=hs.after φ.packed l';refine Gt w F fb sb b φ (FsL.wr { φ with st:=φ.st.begin.1 } l') K (K+12) v r g x h U eg ?_ (fun _=>⟨ce.num (K:=KI) ha U,Ap (K:=KI) ha gM⟩) (fun _ W hW=>?_)
 ·rw[hr]
  refine⟨rfl,fun he=>?_⟩
  have hc:=hs.code φ.packed l';have he:(φ.st.begin.1.dir φ.packed l').2=0:=he;rw[hc] at he;cases hf:iA l' with
  | false=>rw[hf] at he;exact absurd he Z
  | true=>unfold FsL.wr;rw[hf];exact⟨rfl,rfl⟩
 ·rw[hr];exact hw W hW hs hn
theorem FOk.find{φ:FsL}(h:FOk φ):φ.st.dead=false→φ.l.length≤1000000∧φ.l.Pairwise fun a b=>a.name<b.name:=fun e=>by
 rcases h with hd|⟨_,KI,fr,C,hI,_⟩
 ·rw[e] at hd;cases hd
 ·exact⟨My hI.len Z,hI.rise⟩
theorem Jg(w:World)(F:Nat→Prop)(fb sb b:Nat)(φ:FsL)(K:Nat)(v:Value)(s:Bytes)(h:FsG w F fb sb b φ K v)(hI:FOk φ)(hK:K+20≤1000000000000000000)(hs:s.length≤1000000):
  Calls prog 14 #[au fb,ah s] w fun e w'=>e=.returned (.int .i64 (φ.create s).2)∧FsR w w' F fb sb b (φ.create s).1 (K+12):=by
 have qO:=fun W=>EH s W U
 have eP:=wB s h hI.find;have hk:∀W,Q w W→FsR w W F fb sb b φ (K+12):=fun W q=>(((FsK.of h).q q).mono U).r
 have hc:φ.create s=if φ.st.dead then(φ,4) else if iM s=false then(φ,12) else if isF φ.l s then(φ,11) else if φ.l.length=64 then(φ,6) else φ.cx (wu φ s):=rfl
 have hb:∀W,Q w W→W.cell? ⟨fb,2,none⟩=some v:=fun W q=>((h.keep q).box.c4).2.2.1
 have hv:∃a c,v=.slice a φ.l.length c:=by obtain⟨a,c,e,_⟩:=h.files.s.value;exact⟨a,c,e⟩
 have jV:φ.st.dead=false→iM s=true→isF φ.l s=false→φ.l.length≠64→∀W,Q w W→Calls prog 44 #[au fb,.func (.func 45) #[.agg #[au fb,ah s]] #[]] W fun e w'=>e=.returned (.int .i64 (φ.cx (wu φ s)).2)∧FsR w w' F fb sb b (φ.cx (wu φ s)).1 (K+12):=fun h1 h2 h3 h4 W q=>by
  rcases hI with hd|⟨_,KI,fr,C,hI,gM⟩
  ·rw[h1] at hd;cases hd
  ·have hlen:=hI.len
   refine(Jf W F fb sb b φ K v (wu φ s) _ _ (jE φ.l ⟨s,false,0,[]⟩) (h.keep q) hI gM (enters_of func45 (by kernel_rfl) rfl) rfl (fun X hX hs hn=>?_)).mono fun e w' hx=>⟨hx.1,FsR.seq (fun k hk=>.inl hk) (ae.br q) hx.2⟩
   exact Ra W X F fb sb b { φ with st:=φ.st.begin.1 } K v s hX (My hlen Z) hI.rise (first:=ak φ.st.n+12) (by show cL _ φ.st.begin.1.n _;rw[hn];exact Xr hI s h2 h3 U) hs U (.inr hI.eK) hK
 obtain⟨la,lc,rfl⟩:=hv;rw[hc];have JI:=Hd qO;have iW:=Hd eP;have HK:=Hd hk;have HB:=Hd hb;have xP:=Hd jV;clear qO eP hk hc hb jV h hI;generalize φ.st.dead=dd at *;generalize iM s=ok at *;generalize isF φ.l s=isf at *;generalize hD:φ.cx (wu φ s)=D at *;clear hD;go_enter func14,ntmps14;go_wp2_with fail;refine iW.out.mono ?_;rintro e w1 ⟨rfl,q1⟩;have Q1:=Hd q1;clear q1;cases dd with
 | true =>
  simp only[QQ];go_wp2_with fail;go_ret;exact⟨rfl,HK.out _ Q1.out⟩
 | false =>
  cases isf;all_goals
   simp only[N0,PR,QQ];go_wp2_with fail;refine(JI.out _).mono ?_;rintro e w2 ⟨rfl,q2⟩;have Q2:=Hd (Q1.out.trans q2);clear q2;cases ok
  ·simp only[N0,PR,QQ]
   go_wp2_with fail;go_ret;exact⟨rfl,HK.out _ Q2.out⟩
  ·simp only[XS,N0,PR,QQ]
   have hb:=HB.out _ Q2.out;by_cases TF:φ.l.length=64
   ·rw[TF] at hb
    go_wp2_with fail;go_ret;simp only[XS,N0,PR,TF,QQ];exact⟨rfl,HK.out _ Q2.out⟩
   ·have amN:((φ.l.length:Int)==64)=false:=by rw[Γ];omega
    have jV:=xP.out trivial rfl (by first|trivial|rfl) TF _ Q2.out
    have HD:=Hd jV;clear jV;go_wp2_with fail;refine HD.out.mono ?_;rintro e w3 ⟨rfl,h3⟩;have H3:=Hd h3;clear h3;go_wp2_with fail;go_ret;simp only[XS,N0,PR,TF];exact⟨rfl,H3.out⟩
  ·simp only[N0,PR,QQ]
   go_wp2_with fail;go_ret;exact⟨rfl,HK.out _ Q2.out⟩
  ·simp only[XS,N0,PR,QQ]
   go_wp2_with fail;go_ret;exact⟨rfl,HK.out _ Q2.out⟩
end
section
open Go.RowKit
theorem U7(vs:List Value):∀(l:List ax) (i:Nat) (hi:i<l.length),vs.length=l.length→(dH vs l).set (i*4+1) (.bool true)=dH vs (l.set i l[i].sealed):=by
 induction vs with
 | nil=>intro l i hi h;rw[←h] at hi;simp at hi
 | cons a vs ih=>intro l i hi h;cases l with
  | nil=>simp at hi
  | cons f l=>cases i with
   | zero=>rfl
   | succ i =>
    have:=ih l i (by simpa using hi) (by simpa using h)
    rw[show(i+1)*4+1=(i*4+1)+1+1+1+1 by omega]
    simp only[dH,abZ,abj,this]
section
variable {P:Nat→Prop} {w:World} {base:Nat} {v:Value} {l:List ax}
theorem cA.seal(h:cA P w base v l)(hP:∀k,P k→k<base)(i:Nat)(hi:i<l.length):∃g cap,v=.slice (some ⟨g,0,none⟩) l.length cap∧(∃u,w.cell? ⟨g,i*4+1,none⟩=some u)∧w.frozen? ⟨g,i*4+1,none⟩=false∧base≤g∧cA P (w.setCell ⟨g,i*4+1,none⟩ (.bool true)) base v (l.set i l[i].sealed):=by
 obtain⟨vs,e1,e2,e3⟩:=h;obtain⟨a,cap,rfl,hg⟩:=aY e2;obtain⟨g,rfl⟩:=hg U;have ay:=e2.lt g rfl;have aC:=(e2.stored (i*4+1) (.bool true)).1;obtain⟨_,x1,_,_⟩:=wm vs l i hi e1;refine⟨g,cap,rfl,⟨_,(e2.cellAt (i*4+1) U).trans x1⟩,e2.frozenAt _,ay.1,vs,by rw[SP,e1],?_,fun j u f hu hf=>?_⟩
 ·rw[U7 vs l i hi e1] at aC
  rw[SP];exact aC
 ·rw[abo] at hf
  have hx:∃f0,l[j]?=some f0∧f0.ext=f.ext:=by
   split at hf
   ·rename_i GQ
    subst GQ;simp only[hi,QQ,N6] at hf;exact⟨l[i],Mp hi,by rw[←hf];rfl⟩
   ·exact⟨f,hf,rfl⟩
  obtain⟨f0,Rz,he⟩:=hx;have:=e3 j u f0 hu Rz;rw[he] at this;exact this.bh (ae.setCell (a:=⟨g,i*4+1,none⟩) (ae.refl (fun k=>k=g) w) (.inl rfl) _) (fun k hk hc=>by have:=hP k hk;omega)
end
theorem XA(w W:World)(F:Nat→Prop)(fb sb b:Nat)(φ:FsL)(K:Nat)(v:Value)(i:Nat)(hi:i<φ.l.length){KI first:Nat}{fr:List (List WrL)}{C:Nat→Bytes}(h:FsK w W F fb sb b φ K v)(hl:φ.l.length≤1000)
  (hd:cL first φ.st.n (φ.l.set i φ.l[i].sealed)) (hs:eI KI φ.st fr C) (gM:KI<18446744073709551616) (hp:φ.packed=[]∨φ.packed.length=3072) (hK:K+20≤1000000000000000000) :
  Calls prog 47 #[.agg #[au fb,.int .i64 (i:Nat)]] W fun e w'=>e=.returned (.int .i64 (φ.st.dir φ.packed (φ.l.set i φ.l[i].sealed)).2)∧FsR w w' F fb sb b (φ.wr (φ.l.set i φ.l[i].sealed)) (K+12):=by
 obtain⟨l',Jw⟩:∃l',l'=φ.l.set i φ.l[i].sealed:=⟨_,rfl⟩;rw[←Jw] at hd ⊢;obtain⟨G,hG,h2,h3⟩:=h;obtain⟨wa,dO⟩:∃wa,wa=W.alloc (.cells #[au fb,.int .i64 (i:Nat)] 98):=⟨_,rfl⟩;have qa:Q W wa:=by rw[dO];exact Q.alloc _ _
 have bZ:Blk wa W.heap.size 98 #[au fb,.int .i64 (i:Nat)]:=by rw[dO];exact Blk.new W _ _
 have bL:Calls prog 55 #[v] wa fun e w1=>∃v',e=.returned v'∧Q wa w1∧Hid (∃g cap,v'=.slice (some ⟨g,0,none⟩) φ.l.length cap∧(∃u,w1.cell? ⟨g,i*4+1,none⟩=some u)∧w1.frozen? ⟨g,i*4+1,none⟩=false∧Q wa (w1.setCell ⟨g,i*4+1,none⟩ (.bool true))∧cn (fun k=>¬own G fb k) (w1.setCell ⟨g,i*4+1,none⟩ (.bool true)) v' l') :=
  (hG.js hl qa).mono fun e w1 hx=>by
   obtain⟨v',r1,r2,r3⟩:=hx;obtain⟨g,cap,e1,e2,e3,e4,e5⟩:=(r2.low qa.size).seal (fun k hk=>hk.2) i hi
   obtain⟨g',cap',e1',_,_,e4',_⟩:=r2.seal (fun k hk=>Ψ hk.2 qa.size) i hi
   rw[e1] at e1';simp only[Value.slice.injEq,N6,Addr.mk.injEq,and_true,aeJ] at e1';rw[←e1'.1] at e4';exact⟨v',r1,r3,Hd ⟨g,cap,e1,e2,e3,Q.setCell r3 e4' _,by rw[Jw];exact e5.own hG (Ω _)⟩⟩
 have jB:∀(X:World) (lv:Value),Q W X→cn (fun k=>¬own G fb k) X lv l'→Calls prog 96 #[au fb,lv] X fun e w'=>e=.returned (.int .i64 (φ.st.dir φ.packed l').2)∧FsR w w' F fb sb b (φ.wr l') (K+12)∧ae (own G fb) X w':=fun X lv q lI=>hG.mT h2 h3 q lI hd hs gM hp hK
 obtain⟨_,_,c2,_⟩:=hG.box.c4;obtain⟨la,lc,rfl⟩:∃a c,v=.slice a φ.l.length c:=by
  obtain⟨a,c,e,_⟩:=hG.files.s.value;exact⟨a,c,e⟩
 obtain⟨d0,d1,_⟩:=bZ.c2;replace c2:=aj qa c2;have CX:(i:Int)<(φ.l.length:Int):=U;have qL:(0:Int)≤(i:Int):=U;have p8:=Hd bL;have vC:=Hd jB;have QA:=Hd qa;clear bL jB hG h2 h3 hd hs hl Jw bZ qa;generalize (φ.st.dir φ.packed l').2=res at *;generalize φ.wr l'=ψ at *;go_enter func47,ntmps47;go_upto_region 1 with fail;rw[←dO];clear dO;go_wp2_with fail;refine p8.out.mono ?_;rintro e w1 ⟨v1,rfl,q1,H1⟩;obtain⟨g,cap,rfl,⟨u,e2⟩,e3,q2,e5⟩:=H1.out;have d2:=aj q2 d0;replace d0:=aj q1 d0;replace d1:=aj q1 d1;have hq:Q W _:=QA.out.trans q2;have Q2:=Hd hq;have E5:=Hd e5;clear hq e5 q2 p8 H1;go_upto_region 3 with fail;generalize w1.setCell ⟨g,i*4+1,none⟩ (.bool true)=w2 at *;clear d0 d1 e2 e3;go_wp2_with fail;refine(vC.out _ _ Q2.out E5.out).mono ?_;rintro e w3 ⟨rfl,h3,_⟩;have H3:=Hd h3;clear h3;go_wp2_with fail;go_ret;exact⟨rfl,H3.out⟩
theorem N8(w:World)(F:Nat→Prop)(fb sb b:Nat)(φ:FsL)(K:Nat)(v:Value)(s:Bytes)(h:FsG w F fb sb b φ K v)(hI:FOk φ)(hK:K+20≤1000000000000000000):
  Calls prog 16 #[au fb,ah s] w fun e w'=>e=.returned (.int .i64 (φ.fW s).2)∧FsR w w' F fb sb b (φ.fW s).1 (K+12):=by
 have eP:=wB s h hI.find;have hk:∀W,Q w W→FsR w W F fb sb b φ (K+12):=fun W q=>(((FsK.of h).q q).mono U).r
 have hc:φ.fW s=if φ.di s≠0 then(φ,φ.di s) else φ.cx (Ca φ (aA φ.l s) (φ.at9 s)):=rfl
 have pF:φ.di s=if φ.st.dead then 4 else if isF φ.l s then 0 else 10:=rfl
 have jV:φ.st.dead=false→isF φ.l s=true→∀W,Q w W→Calls prog 44 #[au fb,.func (.func 47) #[.agg #[au fb,.int .i64 (aA φ.l s:Nat)]] #[]] W fun e w'=>e=.returned (.int .i64 (φ.cx (Ca φ (aA φ.l s) (φ.at9 s))).2)∧FsR w w' F fb sb b (φ.cx (Ca φ (aA φ.l s) (φ.at9 s))).1 (K+12):=fun h1 h2 W q=>by
  rcases hI with hd|⟨_,KI,fr,C,hI,gM⟩
  ·rw[h1] at hd;cases hd
  ·have hlen:=hI.len
   obtain⟨hp,_⟩:=zo h2;rw[DV φ s hp];refine(Jf W F fb sb b φ K v (Ca φ (aA φ.l s) φ.l[aA φ.l s]) _ _ (φ.l.set (aA φ.l s) φ.l[aA φ.l s].sealed) (h.keep q) hI gM (enters_of func47 (by kernel_rfl) rfl) rfl (fun X hX hs hn=>?_)).mono fun e w' hx=>⟨hx.1,FsR.seq (fun k hk=>.inl hk) (ae.br q) hx.2⟩
   exact XA W X F fb sb b { φ with st:=φ.st.begin.1 } K v (aA φ.l s) hp hX (My hlen Z) (first:=ak φ.st.n+12) (by show cL _ φ.st.begin.1.n _;rw[hn];exact AE hI _ hp) hs U (.inr hI.eK) hK
 rw[hc,pF];have iW:=Hd eP;have HK:=Hd hk;have xP:=Hd jV;clear eP hk hc jV h hI pF;generalize hD:φ.cx (Ca φ (aA φ.l s) (φ.at9 s))=D at *;clear hD;generalize φ.st.dead=dd at *;generalize isF φ.l s=isf at *;generalize aA φ.l s=pl at *;go_enter func16,ntmps16;go_wp2_with fail;refine iW.out.mono ?_;rintro e w1 ⟨rfl,q1⟩;have Q1:=Hd q1;clear q1;cases dd
 ·cases isf
  ·simp only[N0,PR,QQ]
   go_wp2_with fail;go_ret;exact⟨rfl,HK.out _ Q1.out⟩
  ·simp only[N0,PR,QQ]
   have jV:=xP.out (by first|trivial|rfl) (by first|trivial|rfl) _ Q1.out
   have HD:=Hd jV;clear jV;go_wp2_with fail;refine HD.out.mono ?_;rintro e w3 ⟨rfl,h3⟩;have H3:=Hd h3;clear h3;go_wp2_with fail;go_ret;exact⟨rfl,H3.out⟩
 ·simp only[QQ]
  go_wp2_with fail;go_ret;exact⟨rfl,HK.out _ Q1.out⟩
end
section
open Go.RowKit
theorem Lr(a b:List (Nat×Nat)):∀σ:StL,(σ.bo a).2=0→σ.bo (a++b)=(σ.bo a).1.bo b:=by
 induction a with
 | nil=>intro σ _;rfl
 | cons x a ih =>
  intro σ h;rw[StL.bo] at h;by_cases hx:(σ.release x.1 x.2).2≠0
  ·rw[Φ hx] at h;exact absurd h hx
  ·rw[η hx] at h
   rw[PC,StL.bo,η hx,ih _ h,StL.bo,η hx]
structure kh (KI:Nat) (σ:StL) (fr:List (List WrL)) (C:Nat→Bytes) (x:List (Nat×Nat)):Prop where
 st:ce KI σ fr C
 op:σ.open_=true
 map:fO σ
 ok:∀e∈x,1≤e.2∧ak σ.n≤e.1∧e.1+e.2≤σ.n
 nodup:(aT x).Nodup
 on:∀i∈aT x,bit σ.ai i=true
theorem Gu(x:List (Nat×Nat))(k:Nat):(aT (x.take k)).Sublist (aT x):=by
 conv=>rhs;rw[←PP k x]
 unfold aT;rw[Sp];exact List.sublist_append_left _ _
theorem kh.take{KI:Nat}{σ:StL}{fr:List (List WrL)}{C:Nat→Bytes}{x:List (Nat×Nat)}(h:kh KI σ fr C x)(k:Nat):(σ.bo (x.take k)).2=0∧ce KI (σ.bo (x.take k)).1 fr C:=by
 obtain⟨a,_,c,_⟩:=I9 (x.take k) h.st h.op h.map (fun e he=>h.ok e (Sf he)) (h.nodup.sublist (Gu x k)) (fun i hi=>h.on i ((Gu x k).subset hi))
 exact⟨a,c⟩
theorem kh.run{KI:Nat}{σ:StL}{fr:List (List WrL)}{C:Nat→Bytes}{x:List (Nat×Nat)}(h:kh KI σ fr C x)(hK:KI<18446744073709551616)(k:Nat)(hk:k<x.length):
  iL (σ.bo (x.take k)).1∧((σ.bo (x.take k)).1.release (x[k].1:Nat) (x[k].2:Nat)).2=0∧σ.bo (x.take (k+1))=(((σ.bo (x.take k)).1.release (x[k].1:Nat) (x[k].2:Nat)).1,0):=by
 obtain⟨a0,a1⟩:=h.take k;obtain⟨b0,_⟩:=h.take (k+1);rw[M2 hk,Lr _ _ _ a0,StL.bo] at b0 ⊢;by_cases hx:((σ.bo (x.take k)).1.release (x[k].1:Nat) (x[k].2:Nat)).2≠0
 ·rw[Φ hx] at b0;exact absurd b0 hx
 ·rw[η hx]
  rw[abq] at hx;exact⟨a1.num hK,hx,rfl⟩
theorem FsK.seq{w W w2:World}{F G:Nat→Prop}{fb sb b:Nat}{φ:FsL}{K:Nat}{v:Value}(hg:∀k,G k→grow F w W k)(t:ae (own F fb) w W)(h:FsK W w2 G fb sb b φ K v):FsK w w2 F fb sb b φ K v:=by
 obtain⟨H,h1,h2,h3⟩:=h;have hs:=t.size;have jm:=h3.size;refine⟨H,h1,fun k hk=>?_,⟨h3.os.trans t.os,h3.tape.trans t.tape,h3.output.trans t.output,My hs jm,fun k hk hn=>?_⟩⟩
 ·rcases h2 k hk with hk|hk
  ·exact(hg k hk).imp id fun hk=>⟨hk.1,U⟩
  ·exact .inr ⟨U,hk.2⟩
 ·refine(h3.block k U (fun hc=>?_)).trans (t.block k hk hn)
  rcases hc with hc|hc
  ·rcases hg k hc with hc|hc
   ·exact hn (.inl hc)
   ·omega
  ·exact hn (.inr hc)
theorem FsG.LO{w w':World}{F H:Nat→Prop}{fb sb b:Nat}{φ:FsL}{K K':Nat}{v:Value}{σ':StL}{P:Ending→Prop}{f:FuncId}{av:Array Value}(h1:FsG w' H fb sb b φ K v)(h2:∀k,H k→grow F w w' k)(h3:ae (own F fb) w w')
  (hc:Calls prog f av w' fun e w2=>P e∧cg w2 (grow H w' w2) sb b σ' K'∧ae H w' w2):Calls prog f av w' fun e w2=>P e∧FsK w w2 F fb sb b { φ with st:=σ' } K' v∧ae H w' w2 :=
 hc.mono fun e w2 hr=>⟨hr.1,FsK.seq h2 h3 ⟨_,h1.call hr.2.1 hr.2.2,fun k hk=>hk,hr.2.2.mono fun k hk=>.inl hk⟩,hr.2.2⟩
theorem FsK.t{w W:World}{F:Nat→Prop}{fb sb b:Nat}{φ:FsL}{K:Nat}{v:Value}(h:FsK w W F fb sb b φ K v):ae (own F fb) w W:=by
 obtain⟨_,_,_,h3⟩:=h;exact h3
theorem Gv(W:World)(G:Nat→Prop)(fb sb b:Nat)(φ:FsL)(K:Nat)(v:Value)(f:ax)(av:Value){KI:Nat}{fr:List (List WrL)}{C:Nat→Bytes}(hG:FsG W G fb sb b φ K v)(ha:SlP (fun k=>¬own G fb k) W av f.ext.length 2 (ext f.ext))(hl:f.ext.length≤16)(hr:kh KI φ.st fr C f.ext)(gM:KI<18446744073709551616)(hK:K+40≤1000000000000000000):
  Calls prog 128 #[au fb,oN f av] W fun e w'=>e=.returned (.int .i64 0)∧FsK W w' G fb sb b { φ with st:=(φ.st.bo f.ext).1 } (K+32) v:=by
 obtain⟨wa,dO⟩:∃wa,wa=W.alloc (.cells #[ah f.name,.bool f.sl,.int .i64 (f.size:Nat),av] 56):=⟨_,rfl⟩;have qa:Q W wa:=by rw[dO];exact Q.alloc _ _
 have bZ:Blk wa W.heap.size 56 #[ah f.name,.bool f.sl,.int .i64 (f.size:Nat),av]:=by rw[dO];exact Blk.new W _ _
 have bX:=ha.bh (ae.br (own:=fun _=>False) qa) (fun _ _ x=>x)
 obtain⟨ea,ec,rfl,_⟩:=jS bX.1;have dP:∀wr,ae (own G fb) wa wr→∀k (hk:k<f.ext.length),∃eb eo,ea=some ⟨eb,eo,none⟩∧wr.cell? ⟨eb,eo+k*2,none⟩=some (.int .i64 (f.ext[k].1:Nat))∧wr.cell? ⟨eb,eo+k*2+1,none⟩=some (.int .i64 (f.ext[k].2:Nat)):=fun wr t k hk=>by
  obtain⟨a',c',e,hc⟩:=jS (bX.bh t (fun k hk=>hk)).1
  simp only[Value.slice.injEq,aeJ] at e;obtain⟨eb,eo,e2,hc⟩:=hc U;rw[←e.1] at e2;exact⟨eb,eo,e2,hc k hk⟩
 have h0:FsK wa wa G fb sb b { φ with st:=(φ.st.bo (f.ext.take 0)).1 } (K+0) v:=FsK.of (hG.keep qa);have nP:=fun k hk=>hr.run gM k hk
 have dK:(φ.st.bo (f.ext.take f.ext.length)).1=(φ.st.bo f.ext).1:=by rw[N5]
 have hend:∀X,FsK wa X G fb sb b { φ with st:=(φ.st.bo f.ext).1 } (K+32) v→FsK W X G fb sb b { φ with st:=(φ.st.bo f.ext).1 } (K+32) v:=fun X hX=>hX.seq (fun k hk=>.inl hk) (ae.br qa)
 obtain⟨d0,d1,d2,d3,_⟩:=bZ.c4;have H0:=Hd h0;have lu:=Hd dP;have TH:=Hd nP;have Dy:=Hd hend;have nT:=Hd dK;clear h0 dP nP hend dK bX ha hG hr bZ d0 d1 d2;obtain⟨fn,fsl,fsz,x⟩:=f;simp only[] at *;go_enter func128,ntmps128;go_upto_region 1 with fail;rw[←dO];clear dO qa;go_wp2_with fail;go_loopw [11] (fun i wr=>∃k:Nat,i=.int .i64 (k:Nat)∧k≤x.length∧Hid (FsK wa wr G fb sb b { φ with st:=(φ.st.bo (x.take k)).1 } (K+2*k) v)) (fun i _=>x.length-(intOf i).toNat)
 case atStart=>exact⟨0,rfl,MD _,H0⟩
 case round =>
  obtain⟨k,rfl,hk,HK⟩:=hrel;by_cases ay:k<x.length
  ·have bq:(k:Int)<(x.length:Int):=U
   have lT:(0:Int)≤(k:Int):=U;obtain⟨eb,eo,rfl,c0,c1⟩:=lu.out wr HK.out.t k ay;obtain⟨r1,r2,r3⟩:=TH.out k ay;obtain⟨H,h1,h2,h3⟩:=HK.out;have hrel:∀X,Q wr X→Calls prog 209 #[au sb,.int .i64 (x[k].1:Nat),.int .i64 (x[k].2:Nat)] X fun e w'=>e=.returned (.int .i64 0)∧FsK wa w' G fb sb b { φ with st:=(φ.st.bo (x.take (k+1))).1 } (K+2*(k+1)) v∧ae H X w':=fun X q=>by
    rw[r3];exact FsG.LO (φ:=⟨(φ.st.bo (x.take k)).1,φ.l,φ.packed⟩) (h1.keep q) (fun k hk=>(h2 k hk).imp id fun hk=>⟨hk.1,Ψ hk.2 q.size⟩) (h3.trans (ae.br q)) ((Qv X H sb b _ (K+2*k) _ _ (h1.keep q).st r1 U).mono fun e w' hx=>⟨by rw[←r2];exact hx.1,hx.2⟩)
   have hnH:¬H wr.heap.size:=fun hc=>by have:=h1.st.lt _ hc;omega
   have hnf:¬H fb:=h1.nb;obtain⟨b0,_⟩:=h1.box.c4;have aeh:=Hd hrel;clear h1 h2 h3 HK;clear hrel r1 r2 r3;generalize x[k]=y at *;obtain⟨y1,y2⟩:=y;simp only[] at c0 c1 aeh;go_wp2_with fail;obtain⟨wx,BG⟩:∃wx,wx=wr.alloc (.cells #[.int .i64 (y1:Nat),.int .i64 (y2:Nat)] 120):=⟨_,rfl⟩;have qx:Q wr wx:=by rw[BG];exact Q.alloc _ _
   have JB:Blk wx wr.heap.size 120 #[.int .i64 (y1:Nat),.int .i64 (y2:Nat)]:=by rw[BG];exact Blk.new wr _ _
   obtain⟨p0,p1,_⟩:=JB.c2;replace b0:=aj qx b0;rw[←BG];have QX:=Hd qx;clear BG JB c0 c1 qx;have KK:=Hd (Q.refl wx);have b0d:=aj (Q.drew wx) b0;have p0d:=aj (Q.drew wx) p0;have p1d:=aj (Q.drew wx) p1
   (go_region_held3 (fun w'=>w'.cell? ⟨fb,0,none⟩=some (au sb)∧w'.cell? ⟨wr.heap.size,0,none⟩=some (.int .i64 (y1:Nat))∧w'.cell? ⟨wr.heap.size,1,none⟩=some (.int .i64 (y2:Nat)))
    (first|exact g0|exact⟨b0,p0,p1⟩|exact three δ b0 p0 p1)
    (first
     | (go_at_call 209;with_reducible refine(aeh.out wx.drew (QX.out.trans (Q.drew wx))).mono ?_;rintro e w5 ⟨rfl,h5,t5⟩;have g0:=And.intro (t5.cell b0d hnf) (And.intro (t5.cell p0d hnH) (t5.cell p1d hnH));have H5:=Hd h5;clear h5 t5)))
   all_goals
    go_wp2_with fail;exact⟨⟨k+1,by go_num,U,H5⟩,by simp[intOf];omega⟩
  ·obtain rfl:k=x.length:=U
   have bq:¬(x.length:Int)<(x.length:Int):=U;have kW:=HK.out;rw[nT.out] at kW;have ZU:=Hd (Dy.out _ (kW.mono U));clear kW HK;go_wp2_with fail;go_ret;exact⟨rfl,ZU.out⟩
end
section
open Go.RowKit
section
variable {KI:Nat} {φ:FsL} {fr:List (List WrL)} {C:Nat→Bytes}
theorem bz.Lw(h:bz KI φ fr C)(f:ax)(hf:f∈φ.l):kh KI φ.st.begin.1 fr C f.ext:=by
 obtain⟨ht,h0,h1⟩:=h.start;have ny:fO φ.st.begin.1:=by unfold fO;rw[h0];simp
 have hn:=fq ht.j;have ho:=h.good.ok.ok f hf;have oZ:∀i∈aT f.ext,i∈fD φ.l:=fun i hi=>PT.2 ⟨f,hf,hi⟩
 exact⟨ht.st,ht.op,ny,fun x hx=>by have:=ho.ext x hx;rw[hn];omega,h.good.ok.apart.sublist (by have:=tH (ab5.2 hf);rwa [show fD [f]=aT f.ext from ON _] at this),fun i hi=>by
  have hr:=h.good.ok.mem (oZ i hi);rw[h1];exact(h.eQ i U hr.2).2 (.inr (oZ i hi))⟩
theorem bz.sA(h:bz KI φ fr C)(f:ax)(hf:f∈φ.l):eI KI (φ.st.begin.1.bo f.ext).1 fr C∧(φ.st.begin.1.bo f.ext).2=0∧(φ.st.begin.1.bo f.ext).1.n=φ.st.n:=by
 obtain⟨a,b,c,d⟩:=Dk h f hf;refine⟨h.Kf b (My (qY b.st c) Z) (fun i hi=>?_),a,fq b.j⟩
 rw[d,η]
 ·exact h.low _ U
 ·intro hc
  have:=(h.good.ok.mem (PT.2 ⟨f,hf,hc⟩)).1;omega
end
section
variable {w W X:World} {F G:Nat→Prop} {fb sb b:Nat} {φ:FsL} {K:Nat} {v:Value}
theorem FsG.file(h:FsG W G fb sb b φ K v)(i:Nat)(hi:i<φ.l.length):∃g off cap av,v=.slice (some ⟨g,off,none⟩) φ.l.length cap∧SlP (fun k=>¬own G fb k) W av φ.l[i].ext.length 2 (ext φ.l[i].ext)∧¬own G fb g ∧
  W.cell? ⟨g,off+i*4,none⟩=some (ah φ.l[i].name)∧W.cell? ⟨g,off+i*4+1,none⟩=some (.bool φ.l[i].sl)∧W.cell? ⟨g,off+i*4+2,none⟩=some (.int .i64 (φ.l[i].size:Nat))∧W.cell? ⟨g,off+i*4+3,none⟩=some av:=by
 obtain⟨vs,h1,h2,h3⟩:=h.files;obtain⟨⟨_,a,cap,rfl,hc⟩,hp⟩:=h2;obtain⟨g,off,rfl,hd⟩:=hc U;obtain⟨e0,e1,e2,e3⟩:=wm vs φ.l i hi h1;exact⟨g,off,cap,vs[i]' U,rfl,h3 i _ _ (Mp U) (Mp hi),hp U g off cap rfl,hd _ _ e0,hd _ _ e1,hd _ _ e2,hd _ _ e3⟩
end
theorem uA{w w':World}(q:Q w w'){a0 a1 a2 a3 a4 a5 a6:Addr}{v0 v1 v2 v3 v4 v5 v6:Value}(h0:w.cell? a0=some v0)(h1:w.cell? a1=some v1)(h2:w.cell? a2=some v2)(h3:w.cell? a3=some v3)(h4:w.cell? a4=some v4)(h5:w.cell? a5=some v5)(h6:w.cell? a6=some v6):
  w'.cell? a0=some v0∧w'.cell? a1=some v1∧w'.cell? a2=some v2∧w'.cell? a3=some v3∧w'.cell? a4=some v4∧w'.cell? a5=some v5∧w'.cell? a6=some v6:=⟨aj q h0,aj q h1,aj q h2,aj q h3,aj q h4,aj q h5,aj q h6⟩
theorem Rb(w W:World)(F:Nat→Prop)(fb sb b:Nat)(φ:FsL)(K:Nat)(v:Value)(i:Nat)(hi:i<φ.l.length){KI first:Nat}{fr:List (List WrL)}{C:Nat→Bytes}(h:FsK w W F fb sb b φ K v)(hl:φ.l.length≤1000)(hx:φ.l[i].ext.length≤16)(hr:kh KI φ.st fr C φ.l[i].ext)
  (hd:cL first (φ.st.bo φ.l[i].ext).1.n (φ.l.eraseIdx i)) (hs:eI KI (φ.st.bo φ.l[i].ext).1 fr C) (gM:KI<18446744073709551616) (hp:φ.packed=[]∨φ.packed.length=3072) (hK:K+60≤1000000000000000000) :
  Calls prog 79 #[.agg #[au fb,.int .i64 (i:Nat)]] W fun e w'=>e=.returned (.int .i64 ((φ.st.bo φ.l[i].ext).1.dir φ.packed (φ.l.eraseIdx i)).2)∧FsR w w' F fb sb b (FsL.wr { φ with st:=(φ.st.bo φ.l[i].ext).1 } (φ.l.eraseIdx i)) (K+44):=by
 obtain⟨G,hG,h2,h3⟩:=h;obtain⟨wa,dO⟩:∃wa,wa=W.alloc (.cells #[au fb,.int .i64 (i:Nat)] 145):=⟨_,rfl⟩;have qa:Q W wa:=by rw[dO];exact Q.alloc _ _
 have bZ:Blk wa W.heap.size 145 #[au fb,.int .i64 (i:Nat)]:=by rw[dO];exact Blk.new W _ _
 have ay:=hG.fy;have pX:¬own G fb W.heap.size:=fun hc=>by have:=ay _ hc;omega
 have Mw:=hG.keep qa;obtain⟨g,off,cap,av,rfl,wR,FN,k0,k1,k2,k3⟩:=Mw.file i hi;obtain⟨_,_,c2,_⟩:=Mw.box.c4;obtain⟨d0,d1,_⟩:=bZ.c2;obtain⟨σ1,hσ⟩:∃σ,σ=(φ.st.bo φ.l[i].ext).1:=⟨_,rfl⟩;have vw:Calls prog 128 #[au fb,oN φ.l[i] av] wa.drew fun e w1=>e=.returned (.int .i64 0)∧FsK wa w1 G fb sb b { φ with st:=σ1 } (K+32) (.slice (some ⟨g,off,none⟩) φ.l.length cap)∧ae (own G fb) wa w1:=by
  rw[hσ];refine(Gv wa.drew G fb sb b φ K _ φ.l[i] av (Mw.keep (Q.drew wa)) (wR.bh (ae.br (own:=fun _=>False) (Q.drew wa)) (fun _ _ x=>x)) hx hr gM U).mono fun e w1 hh=>?_
  have:=FsK.seq (fun k hk=>.inl hk) (ae.br (Q.drew wa)) hh.2
  exact⟨hh.1,this,this.t⟩
 rw[←hσ] at hd hs ⊢;have jB:∀w1,FsK wa w1 G fb sb b { φ with st:=σ1 } (K+32) (.slice (some ⟨g,off,none⟩) φ.l.length cap)→∃G1,FsG w1 G1 fb sb b { φ with st:=σ1 } (K+32) (.slice (some ⟨g,off,none⟩) φ.l.length cap)∧¬own G1 fb W.heap.size ∧
   ∀(X:World) (lv:Value),Q w1 X→cn (fun k=>¬own G1 fb k) X lv (φ.l.eraseIdx i)→Calls prog 96 #[au fb,lv] X fun e w'=>e=.returned (.int .i64 (σ1.dir φ.packed (φ.l.eraseIdx i)).2)∧FsR w w' F fb sb b (FsL.wr { φ with st:=σ1 } (φ.l.eraseIdx i)) (K+44)∧ae (own G1 fb) X w':=fun w1 hk=>by
  obtain⟨G1,g1,g2,g3⟩:=FsK.seq (F:=F) (w:=w) (fun k hk=>(h2 k hk).imp id fun hk=>⟨hk.1,Ψ hk.2 qa.size⟩) (h3.trans (ae.br qa)) hk
  obtain⟨G2,g4,g5,g6⟩:=hk;refine⟨G2,g4,fun hc=>?_,fun X lv q lI=>?_⟩
  ·rcases hc with hc|hc
   ·rcases g5 _ hc with hc|hc
    ·exact pX (.inl hc)
    ·have:=bZ.lt;omega
   ·exact pX (.inr hc)
  ·exact(Aw X G2 fb sb b { φ with st:=σ1 } (K+32) _ lv (φ.l.eraseIdx i) (g4.keep q) lI hd hs gM hp U).mono fun e w' hh=>⟨hh.1,FsR.seq (fun k hk=>(h2 k hk).imp id fun hk=>⟨hk.1,Ψ hk.2 qa.size⟩) (h3.trans (ae.br qa)) (FsR.seq (fun k hk=>(g5 k hk).imp id fun hk=>⟨hk.1,Ψ hk.2 q.size⟩) (g6.trans (ae.br q)) hh.2),by obtain⟨H,_,_,t⟩:=hh.2;exact t⟩
 have CX:(i:Int)<(φ.l.length:Int):=U;have qL:(0:Int)≤(i:Int):=U;have hnf:wa.heap.size=W.heap.size+1:=by rw[dO,World.size_alloc]
 have FK:=Hd vw;have vC:=Hd jB;have FI:=Hd pX;have rW:=Hd FN;clear vw jB pX FN hG Mw h2 h3 wR bZ ay hd hs hr hx;generalize (σ1.dir φ.packed (φ.l.eraseIdx i)).2=res at *;generalize hψ:FsL.wr { φ with st:=σ1 } (φ.l.eraseIdx i)=ψ at *;clear hψ hσ;have eH:=aj (Q.drew wa) d0;have hb1:=aj (Q.drew wa) d1;go_enter func79,ntmps79;go_wp2_with fail;rw[←dO];clear dO;unfold oN at FK
 (go_region_held3 (fun w'=>w'.cell? ⟨W.heap.size,0,none⟩=some (au fb)∧w'.cell? ⟨W.heap.size,1,none⟩=some (.int .i64 (i:Nat))∧w'.cell? ⟨g,off+i*4,none⟩=some (ah φ.l[i].name)∧w'.cell? ⟨g,off+i*4+1,none⟩=some (.bool φ.l[i].sl)∧w'.cell? ⟨g,off+i*4+2,none⟩=some (.int .i64 (φ.l[i].size:Nat))∧w'.cell? ⟨g,off+i*4+3,none⟩=some av∧w'.cell? ⟨fb,2,none⟩=some (.slice (some ⟨g,off,none⟩) φ.l.length cap))
  (first|exact g0|exact⟨d0,d1,k0,k1,k2,k3,c2⟩)
  (first
   | (go_at_call 128;refine FK.out.mono ?_;rintro e w3 ⟨rfl,h5,t5⟩;have g0:=And.intro (t5.cell d0 FI.out) (And.intro (t5.cell d1 FI.out) (And.intro (t5.cell k0 rW.out) (And.intro (t5.cell k1 rW.out) (And.intro (t5.cell k2 rW.out) (And.intro (t5.cell k3 rW.out) h5.cells.2.2.1)))));have H5:=Hd h5;clear h5 t5)))
 clear d0 d1 k0 k1 k2 k3 c2 FK rW FI eH hb1;obtain⟨d0,d1,_,_,_,_,c2⟩:=g0;obtain⟨G1,TK,aei,jB⟩:=vC.out w3 H5.out;have bL:Calls prog 55 #[.slice (some ⟨g,off,none⟩) φ.l.length cap] w3.drew fun e w'=>∃v',e=.returned v'∧Hid (cA (Pw G1 fb w3) w' w3.heap.size v' φ.l)∧Q w3 w':=(TK.js hl (Q.drew w3)).mono fun e w' hh=>by
  obtain⟨v',r1,r2,r3⟩:=hh;exact⟨v',r1,Hd (r2.low (Q.drew w3).size),(Q.drew w3).trans r3⟩
 have Cu:∀X v0,Q w3 X→cA (Pw G1 fb w3) X w3.heap.size v0 φ.l→Calls prog 127 #[v0,.int .i64 (i:Nat),.int .i64 ((i:Int)+1)] X fun e w'=>∃v',e=.returned v'∧Hid (cn (fun k=>¬own G1 fb k) w' v' (φ.l.eraseIdx i))∧Q w3 w':=fun X v0 q hw=>(Dm hw (fun k hk=>hk.2) hl i hi).mono fun e w' hh=>by
  obtain⟨v',r1,_,r3,r4⟩:=hh;exact⟨v',r1,Hd (r3.own TK (Ω _)),r4.below q q.size (fun k hk=>(hw.lt k hk).1)⟩
 have p8:=Hd bL;have TM:=Hd Cu;have Ms:=Hd jB;have fZ:=Hd aei;have eO:IntKind.i64.wrap ((i:Int)+1)=(i:Int)+1:=IntWalk.i64_in _ U;clear bL Cu jB TK aei vC H5;have c2d:=aj (Q.drew w3) c2;go_wp2_with fail;have KK:=Hd (Q.refl w3)
 have p0:=fun X (q:Q w3 X)=>aj q d0;have p1:=fun X (q:Q w3 X)=>aj q d1;have P0:=Hd p0;have P1:=Hd p1;have a0:=p0 _ (Q.drew w3);have a1:=p1 _ (Q.drew w3);clear p0 p1
 (go_region_law (first
   | (go_simp;go_at_call 55;refine p8.out.mono ?_;rintro e w4 ⟨v1,rfl,F1,s'⟩;have y0:=P0.out _ s';have y1:=P1.out _ s';have K4:=Hd s')
   | (go_simp;go_at_call 127;refine(TM.out _ v1 K4.out F1.out).mono ?_;rintro e w5 ⟨v2,rfl,F2,s5⟩;have z0:=P0.out _ s5;have K5:=Hd s5)
   | (go_simp;go_at_call 96;refine(Ms.out _ _ K5.out F2.out).mono ?_;rintro e w6 ⟨rfl,f3,t3⟩;have F3:=Hd f3;clear f3 t3)))
 all_goals
  go_wp2_with fail;go_ret;exact⟨rfl,F3.out⟩
end
section
open Go.RowKit
theorem Dn(w:World)(F:Nat→Prop)(fb sb b:Nat)(φ:FsL)(K:Nat)(v:Value)(r:StL→TxR)(g:FuncId)(x:Value)(σ1:StL)(l':List ax){KI:Nat}{fr:List (List WrL)}{C:Nat→Bytes}(h:FsG w F fb sb b φ K v)(gM:KI+4<18446744073709551616)(hs:eI KI σ1 fr C)
  (eg:∀(args:Array Value) (w:World),(callFunc g args).run prog w=.ok (.enter g args) w) (hr:r φ.st.begin.1=qm φ σ1 l')
  (hw:∀W,FsK w W F fb sb b { φ with st:=φ.st.begin.1 } K v→Calls prog g #[x] W fun e w'=>e=.returned (.int .i64 (σ1.dir φ.packed l').2)∧FsR w w' F fb sb b (FsL.wr { φ with st:=σ1 } l') (K+100)) :
  Calls prog 44 #[au fb,.func (.func g) #[x] #[]] w fun e w'=>e=.returned (.int .i64 (φ.cx r).2)∧FsR w w' F fb sb b (φ.cx r).1 (K+100):=by
 have ha:=hs.after φ.packed l';refine Gt w F fb sb b φ (FsL.wr { φ with st:=σ1 } l') K (K+100) v r g x h U eg ?_ (fun _=>⟨ce.num (K:=KI) ha U,Ap (K:=KI) ha gM⟩) (fun _ W hW=>?_)
 ·rw[hr]
  refine⟨rfl,fun he=>?_⟩
  have hc:=hs.code φ.packed l';have he:(σ1.dir φ.packed l').2=0:=he;rw[hc] at he;cases hf:iA l' with
  | false=>rw[hf] at he;exact absurd he Z
  | true=>unfold FsL.wr;rw[hf];exact⟨rfl,rfl⟩
 ·rw[hr];exact hw W hW
theorem Gw(w:World)(F:Nat→Prop)(fb sb b:Nat)(φ:FsL)(K:Nat)(v:Value)(s:Bytes)(h:FsG w F fb sb b φ K v)(hI:FOk φ)(hK:K+200≤1000000000000000000):
  Calls prog 38 #[au fb,ah s] w fun e w'=>e=.returned (.int .i64 (φ.delete s).2)∧FsR w w' F fb sb b (φ.delete s).1 (K+100):=by
 have eP:=wB s h hI.find;have hk:∀W,Q w W→FsR w W F fb sb b φ (K+100):=fun W q=>(((FsK.of h).q q).mono U).r
 have hc:φ.delete s=if φ.di s≠0 then(φ,φ.di s) else φ.cx (rZ φ (aA φ.l s) (φ.at9 s)):=rfl
 have pF:φ.di s=if φ.st.dead then 4 else if isF φ.l s then 0 else 10:=rfl
 have jV:φ.st.dead=false→isF φ.l s=true→∀W,Q w W→Calls prog 44 #[au fb,.func (.func 79) #[.agg #[au fb,.int .i64 (aA φ.l s:Nat)]] #[]] W fun e w'=>e=.returned (.int .i64 (φ.cx (rZ φ (aA φ.l s) (φ.at9 s))).2)∧FsR w w' F fb sb b (φ.cx (rZ φ (aA φ.l s) (φ.at9 s))).1 (K+100):=fun h1 h2 W q=>by
  rcases hI with hd|⟨_,KI,fr,C,hI,gM⟩
  ·rw[h1] at hd;cases hd
  ·have hlen:=hI.len
   obtain⟨hp,_⟩:=zo h2;rw[DV φ s hp];have eF:=MA hp;obtain⟨hs,hz,hn⟩:=hI.sA _ eF;have YJ:=(hI.good.ok.ok _ eF).few;refine(Dn W F fb sb b φ K v (rZ φ (aA φ.l s) φ.l[aA φ.l s]) _ _ (φ.st.begin.1.bo φ.l[aA φ.l s].ext).1 (φ.l.eraseIdx (aA φ.l s)) (h.keep q) gM hs (enters_of func79 (by kernel_rfl) rfl) (by unfold rZ;rw[η (by simpa using hz)]) (fun X hX=>?_)).mono fun e w' hx=>⟨hx.1,FsR.seq (fun k hk=>.inl hk) (ae.br q) hx.2⟩
   exact(Rb W X F fb sb b { φ with st:=φ.st.begin.1 } K v (aA φ.l s) hp hX (My hlen Z) YJ (first:=ak φ.st.n+12) (hI.Lw _ eF) (by rw[hn];exact hI.good.ok.erase _) hs U (.inr hI.eK) U).mono fun e w' hx=>⟨hx.1,hx.2.mono U⟩
 rw[hc,pF];have iW:=Hd eP;have HK:=Hd hk;have xP:=Hd jV;clear eP hk hc jV h hI pF;generalize hD:φ.cx (rZ φ (aA φ.l s) (φ.at9 s))=D at *;clear hD;generalize φ.st.dead=dd at *;generalize isF φ.l s=isf at *;generalize aA φ.l s=pl at *;go_enter func38,ntmps38;go_wp2_with fail;refine iW.out.mono ?_;rintro e w1 ⟨rfl,q1⟩;have Q1:=Hd q1;clear q1;cases dd
 ·cases isf
  ·simp only[N0,PR,QQ]
   go_wp2_with fail;go_ret;exact⟨rfl,HK.out _ Q1.out⟩
  ·simp only[N0,PR,QQ]
   have jV:=xP.out (by first|trivial|rfl) (by first|trivial|rfl) _ Q1.out
   have HD:=Hd jV;clear jV;go_wp2_with fail;refine HD.out.mono ?_;rintro e w3 ⟨rfl,h3⟩;have H3:=Hd h3;clear h3;go_wp2_with fail;go_ret;exact⟨rfl,H3.out⟩
 ·simp only[QQ]
  go_wp2_with fail;go_ret;exact⟨rfl,HK.out _ Q1.out⟩
theorem wA:(prog.info? 3).map (fun i=>(i.zero,i.size,i.bytes))=some (some (.int .i64 0),1,8):=by kernel_rfl
theorem rI(x:List (Nat×Nat))(k:Nat)(h:k<x.length):aT (x.take (k+1))=aT (x.take k)++List.range' x[k].1 x[k].2:=by
 rw[M2 h,yP,show aT [x[k]]=List.range' x[k].1 x[k].2 from A8 _ _]
theorem Dp(W:World)(f:ax)(av:Value)(ha:Sl W av f.ext.length 2 (ext f.ext))(hl:f.ext.length≤1000)(he:∀e∈f.ext,e.1+e.2≤100000)(hb:(aT f.ext).length≤100000):
  Calls prog 99 #[oN f av] W fun e w'=>∃v,e=.returned v∧w'.ownsRow W.heap.size 3 1 v (aT f.ext).length ((aT f.ext).map dX)∧Q W w':=by
 obtain⟨i0,hi,bY,bB,aW⟩:=info_parts wA;obtain⟨wa,dO⟩:∃wa,wa=W.alloc (.cells #[ah f.name,.bool f.sl,.int .i64 (f.size:Nat),av] 56):=⟨_,rfl⟩;have qa:Q W wa:=by rw[dO];exact Q.alloc _ _
 have bZ:Blk wa W.heap.size 56 #[ah f.name,.bool f.sl,.int .i64 (f.size:Nat),av]:=by rw[dO];exact Blk.new W _ _
 have bX:=ha.stays qa;obtain⟨ea,ec,rfl,aC⟩:=jS bX;obtain⟨d0,d1,d2,d3,_⟩:=bZ.c4;have nA:=rI f.ext;have fT:=fun k=>(Gu f.ext k).length_le
 have eX:=fun (k:Nat) (hk:k<f.ext.length)=>he _ (MA hk)
 have aX:=Hd aC;have CQ:=Hd nA;have uN:=Hd fT;have kI:=Hd eX;have QA:=Hd qa;clear aC nA fT eX qa bX ha bZ d0 d1 d2 he;obtain⟨fn,fsl,fsz,x⟩:=f;simp only[] at *;go_enter func99,ntmps99;go_upto_region 1 with fail;rw[←dO];clear dO;go_wp2_with fail;go_loopw [3,10] (fun v i wr=>∃k:Nat,i=.int .i64 (k:Nat)∧k≤x.length∧Hid (wr.ownsRow wa.heap.size 3 1 v (aT (x.take k)).length ((aT (x.take k)).map dX))∧Hid (Q wa wr)) (fun _ i _=>x.length-(intOf i).toNat)
 case atStart=>exact⟨0,rfl,MD _,Hd (World.ownsRow_nil _ _ _ _),Hd (Q.refl _)⟩
 case round =>
  obtain⟨k,rfl,hk,HO,HQ⟩:=hrel;obtain⟨wo,rfl⟩:∃wo:World,wo=wr:=⟨_,rfl⟩;by_cases ay:k<x.length
  ·have bq:(k:Int)<(x.length:Int):=U
   have lT:(0:Int)≤(k:Int):=U;obtain⟨eb,eo,rfl,hc⟩:=aX.out U;obtain⟨c0,c1⟩:=hc k ay;replace c0:=aj HQ.out c0;replace c1:=aj HQ.out c1;have nA:=CQ.out k ay;have fT:=uN.out (k+1);have eX:=kI.out k ay;obtain⟨wx,BG⟩:∃wx,wx=wo.alloc (.cells #[.int .i64 (x[k].1:Nat),.int .i64 (x[k].2:Nat)] 120):=⟨_,rfl⟩;have qx:Q wo wx:=by rw[BG];exact Q.alloc _ _
   have JB:Blk wx wo.heap.size 120 #[.int .i64 (x[k].1:Nat),.int .i64 (x[k].2:Nat)]:=by rw[BG];exact Blk.new wo _ _
   obtain⟨p0,p1,_⟩:=JB.c2;have HOX:=Hd (ownsRow_below HO.out qx);have HQX:=Hd (HQ.out.trans qx);have Ah:=Hd (And.intro ay (And.intro nA fT));rw[nA,Δ,WF] at fT;have qz:(aT (x.take k)).length+x[k].2≤100000:=U;have Ju:=Hd JB;have Bj:=Hd qz;have HEK:=Hd eX;clear hc nA fT eX qx JB qz hk;generalize x[k]=y at *;obtain⟨y1,y2⟩:=y;simp only[] at c0 c1 p0 p1 BG Ah Bj HEK Ju;generalize aT (x.take k)=pre at *;have hy2:y2≤100000:=by have:=Bj.out;omega
   go_upto_region 5 with fail;rw[←BG];clear BG c0 c1;go_wp2_with fail;go_loopw [3,16] (fun v i wr=>∃j:Nat,i=.int .i64 (j:Nat)∧j≤y2∧Hid (wr.ownsRow wa.heap.size 3 1 v (pre.length+j) (pre.map dX++(List.range' y1 j).map dX))∧Hid (Q wa wr)∧Hid (Blk wr wo.heap.size 120 #[.int .i64 (y1:Nat),.int .i64 (y2:Nat)])) (fun _ i _=>y2-(intOf i).toNat)
   case atStart=>exact⟨0,rfl,MD _,Hd (by rw[V0,List.range'_zero,Wg,ON];exact HOX.out),HQX,Ju⟩
   case round =>
    obtain⟨j,rfl,hj,Pn,Po,HBJ⟩:=hrel;obtain⟨wi,rfl⟩:∃wi:World,wi=wr:=⟨_,rfl⟩;by_cases FP:j<y2
    ·have ZV:(j:Int)<(y2:Int):=U
     have e1:IntKind.i64.wrap ((y1:Int)+(j:Int))=(y1:Int)+(j:Int):=by have:=HEK.out;exact IntWalk.i64_in _ U
     have q0:=HBJ.out.c2.1;have qc:=Q.alloc wi (.cells #[.int .i64 ((y1:Int)+(j:Int))] 3);have kr:=Sl.lit wi #[.int .i64 ((y1:Int)+(j:Int))] 3 1 1 rfl;have H1:Hid (∀u∈[Value.int .i64 ((y1:Int)+(j:Int))],u.oneCell'=true):=Hd (by intro u hu;simp at hu;subst hu;rfl)
     have H2:Hid (pre.length+j+1≤maxLen):=Hd (by have:=Bj.out;unfold maxLen;omega)
     have H3:Hid ((pre.length+j+1)*8≤140737488355328):=Hd (by have:=Bj.out;omega)
     have H4:Hid (wa.heap.size≤(wi.alloc (.cells #[.int .i64 ((y1:Int)+(j:Int))] 3)).heap.size):=Hd ((Po.out.trans qc).size);have V7:=Hd (ownsRow_below Pn.out qc);have HQC:=Hd (Po.out.trans qc);have ZW:=Hd kr;have HBC:=Hd (HBJ.out.stays qc);clear qc kr;go_wp2_with (at_builtin;refine fM (wi.alloc (.cells #[.int .i64 ((y1:Int)+(j:Int))] 3)) ρ _ _ 59 ρ wa.heap.size 3 i0 (.int .i64 0) 1 8 underlying59 hi bY bB aW rfl Z _ _ _ ρ V7.out _ 1 _ ρ ZW.out H1.out H2.out H3.out H4.out ?_)
     intro v' w4 Cq lV _;have lH:=Hd (Below.grown HQC.out lV H4.out (fun j hj=>(V7.out.lt j hj).1))
     have VA:=Hd (oI HBC.out V7.out lV Z);have Pf:=Hd Cq;clear Cq lV;go_wp2_with fail;go_roundw;case rel=>exact⟨j+1,by go_num,FP,Hd (by rw[←P0,abA,Pu];exact Pf.out),lH,VA⟩
     case measure=>simp[intOf];omega
    ·obtain rfl:j=y2:=U
     have ZV:¬(j:Int)<(j:Int):=U;have HOF:=Hd Pn.out;go_wp2_with fail;go_roundw;case rel=>exact⟨k+1,by go_num,Ah.out.1,Hd (by rw[Ah.out.2.1,Δ,WF,Pu];exact HOF.out),Po⟩
     case measure=>have:=Ah.out.1;simp[intOf];omega
  ·obtain rfl:k=x.length:=U
   have bq:¬(x.length:Int)<(x.length:Int):=U;have ho:=HO.out;rw[N5] at ho;have Ht:=Hd (gT ho QA.out.size);have bJ:=Hd (QA.out.trans HQ.out);clear ho;go_wp2_with fail;go_ret;exact⟨_,rfl,Ht.out,bJ.out⟩
theorem cg.hlen{w:World}{F:Nat→Prop}{sb b:Nat}{σ:StL}{K:Nat}(h:cg w F sb b σ K):Calls prog 58 #[au b] w fun e w'=>e=.returned (.int .i64 (σ.n:Nat))∧w=w':=by
 obtain⟨FJ,FC,p,cb,tb,most,clock,ms,mb,m,ti,hg,_⟩:=h;exact oL w FJ b σ.j.d hg.jr.dev
theorem ub(w:World)(F:Nat→Prop)(fb sb b:Nat)(φ:FsL)(K:Nat)(v:Value)(h:FsG w F fb sb b φ K v)(hn:iL φ.st):
  Calls prog 27 #[au fb] w fun e w'=>e=.returned (.int .i64 (φ.free:Nat))∧Q w w':=by
 have hf:=h.st.hfree hn;obtain⟨c0,_⟩:=h.box.c4;have HF:=Hd hf;clear hf h;show Calls _ _ _ _ fun e w'=>e=.returned (.int .i64 (φ.st.free:Nat))∧Q w w'
 generalize φ.st.free=fr at *;go_enter func27,ntmps27;go_wp2_with fail;refine HF.out.mono ?_;rintro e w1 ⟨rfl,q1⟩;have Q1:=Hd q1;clear q1;go_wp2_with fail;go_ret;exact⟨rfl,Q1.out⟩
theorem N9(w:World)(F:Nat→Prop)(fb sb b:Nat)(φ:FsL)(K:Nat)(v:Value)(h:FsG w F fb sb b φ K v)(hn:iL φ.st)(qp:φ.st.free+ak φ.st.n≤φ.st.n):
  Calls prog 26 #[au fb] w fun e w'=>e=.returned (.int .i64 (φ.used:Nat))∧Q w w':=by
 have iH:=hn.max;have hf:=fun X (q:Q w X)=>(h.st.keep q).hfree hn
 have eP:=fun X (q:Q w X)=>(h.st.keep q).lA iH
 have hb:=fun X (q:Q w X)=>(h.st.keep q).hlen
 obtain⟨c0,c1,_⟩:=h.box.c4;have hu:(φ.used:Int)=(φ.st.n:Int)-(ak φ.st.n:Int)-(φ.st.free:Int):=by unfold FsL.used;omega
 have e1:IntKind.i64.wrap ((φ.st.n:Int)-(ak φ.st.n:Int))=(φ.st.n:Int)-(ak φ.st.n:Int):=IntWalk.i64_in _ U;have e2:IntKind.i64.wrap ((φ.st.n:Int)-(ak φ.st.n:Int)-(φ.st.free:Int))=(φ.st.n:Int)-(ak φ.st.n:Int)-(φ.st.free:Int):=IntWalk.i64_in _ U;rw[hu];have HF:=Hd hf;have iW:=Hd eP;have HB:=Hd hb;clear hf eP hb h hu hn qp iH;generalize φ.st.free=fr at *;generalize ak φ.st.n=fs at *;generalize φ.st.n=n at *;go_enter func26,ntmps26;go_wp2_with fail;have KK:=Hd (Q.refl w)
 (go_region_held3 (fun w'=>w'.cell? ⟨fb,0,none⟩=some (au sb)∧w'.cell? ⟨fb,1,none⟩=some (au b))
  (first|exact⟨c0,c1⟩|exact two δ c0 c1)
  (first
   | (go_at_call 58;with_reducible refine(HB.out _ ω).mono ?_;rintro e w3 ⟨rfl,rfl⟩)
   | (go_at_call 51;with_reducible refine(iW.out _ ω).mono ?_;rintro e w3 ⟨rfl,rfl⟩)
   | (go_at_call 62;with_reducible refine(HF.out _ ω).mono ?_;rintro e w3 ⟨rfl,q3⟩;have s':Q w w3:=Q.trans ω q3;clear KK;have KK:=Hd s';clear s' q3)))
 all_goals
  go_wp2_with fail;go_ret;exact⟨rfl,KK.out⟩
end
end Go.Proofs.YtonlbpljghohmaaGreatDoor
