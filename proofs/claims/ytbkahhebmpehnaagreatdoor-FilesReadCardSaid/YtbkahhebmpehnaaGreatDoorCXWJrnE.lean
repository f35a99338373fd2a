/- Joined: WJrnE to WBlkG -/
import Derived.Test.YtbkahhebmpehnaaGreatDoorCXWCacI
set_option linter.all false
set_option maxRecDepth 100000
set_option maxHeartbeats 8000000
namespace Go.Proofs.YtbkahhebmpehnaaGreatDoor
open Go.Proofs.Tryz
section
open Go.RowKit
theorem WV(w:World)(F:Nat→Prop)(p b:Nat)(j:JL)(lv:Value)(ws:List WrL)(h:cG w F p b j)(hl:Sl w lv ws.length 2 (aN ws))(hw:sS ws)(hh:∀x∈ws,j.home≤x.1∧x.1<j.d.l.length)(cH:j.s.log≤1000000):
  Calls prog 199 #[au p,lv] w fun e w'=>e=.returned (.int .i64 0)∧Q w w':=by
 obtain⟨la,lc,rfl,lX⟩:=hl.value;have aP:∀k (hk:k<ws.length),∃lb lo,la=some ⟨lb,lo,none⟩∧w.cell? ⟨lb,lo+k*2,none⟩=some (.int .i64 (ws[k].1:Nat))∧w.cell? ⟨lb,lo+k*2+1,none⟩=some (ah ws[k].2):=fun k hk=>by
  obtain⟨lb,lo,h1,h4⟩:=lX U;exact⟨lb,lo,h1,h4 _ _ (fQ ws k hk).1,by have:=h4 _ _ (fQ ws k hk).2;rwa [←Ps] at this⟩
 have bQ:∀k (hk:k<ws.length),(j.home≤ws[k].1∧ws[k].1<j.d.l.length)∧ws[k].2.length=256:=fun k hk=>⟨hh _ (LO hk),(hw.2.2 _ (LO hk)).2⟩
 have qM:=hw.1;have kV:=hw.2.1;have hhm:=fun (W:World) (hq:Q w W) (i:Int)=>NJ W F p b j i (h.keep hq).box (h.keep hq).dev cH
 have HC:=Hd aP;have HO:=Hd bQ;have HM:=Hd hhm;have eH:¬(ws.length:Int)=0:=U;have hb1:((ws.length:Int)==0)=false:=Γ.2 eH;have bN:¬(48:Int)<(ws.length:Int):=U;clear aP bQ hhm hw hh h hl lX;go_enter func199,ntmps199;go_wp2_with fail;go_loopw [17] (fun v wr=>∃k:Nat,v=.int .i64 (k:Nat)∧k≤ws.length∧Hid (Q w wr)) (fun v _=>ws.length-(intOf v).toNat)
 case atStart=>exact⟨0,rfl,L0 _,Q.refl _⟩
 case round =>
  obtain⟨k,rfl,hk,HQ⟩:=hrel;by_cases ay:k<ws.length
  ·have bq:(k:Int)<(ws.length:Int):=U
   obtain⟨lb,lo,rfl,x1,x2⟩:=HC.out k ay;have y1:=aI HQ.out x1;have y2:=aI HQ.out x2;obtain⟨⟨h1,h2⟩,gV⟩:=HO.out k ay;have jJ:=Q.alloc wr (.cells #[.int .i64 (ws[k].1:Nat),ah ws[k].2] 134);have hm:=HM.out _ (HQ.out.trans jJ) (ws[k].1:Nat);have e1:decide ((j.home:Int)≤((ws[k].1:Nat):Int))=true:=MM U;have e2:decide (((ws[k].1:Nat):Int)<(j.d.l.length:Int))=true:=MM U;rw[e1,e2] at hm;have Jt:=Hd hm;have zH:=Hd (HQ.out.trans jJ);clear hm jJ x1 x2 e1 e2 h1 h2;generalize ws[k].1=bk at *;generalize ws[k].2=dk at *;have gY:(!((dk.length:Int)==256))=false:=by rw[MY.2 U];rfl
   go_wp2_with fail;refine Jt.out.mono ?_;rintro e w1 ⟨rfl,rfl⟩;go_wp2_with fail;go_roundw;case rel=>exact⟨k+1,by go_num,U,zH⟩
   case measure=>simp[intOf];omega
  ·have bq:¬(k:Int)<(ws.length:Int):=U
   go_wp2_with fail;go_ret;exact⟨rfl,HQ.out⟩
theorem Lo(a b c:Nat)(ha:a<4294967296)(hb:b<4294967296)(hc:c=a*4294967296+b):bits .or .u64 ((a:Int)*4294967296) (b:Int)=((c:Nat):Int):=by
 subst hc;rw[show((a:Int)*4294967296)=((a*4294967296:Nat):Int) by omega,u64_or_nat _ _ U U,nat_join 32 (a*4294967296) b (by rw[show(2:Nat) ^ 32=4294967296 from rfl,acr]) hb]
theorem WX(x:Bytes)(m:Nat)(h:4≤m):aM (x.take m)=aM x:=by
 unfold aM bA;simp only[LR,UB];rw[Φ U,Φ U,Φ U,Φ U]
def kC(s:Bytes)(n:Nat):List Nat:=(List.range n).map fun i=>aM (s.drop (4*i))
theorem AU(s:Bytes)(n:Nat):(kC s n).length=n:=by simp[kC]
theorem WY(s:Bytes)(n:Nat):kC s (n+1)=kC s n++[aM (s.drop (4*n))]:=by simp[kC,Ty]
theorem wA(s:Bytes)(n k:Nat)(h:k<n):aM (s.drop (4*k))∈kC s n:=MD.2 ⟨k,P4.2 h,rfl⟩
theorem WZ(s:Bytes)(n:Nat):kC s (n+1)=aM s::kC (s.drop 4) n:=by
 unfold kC;rw[abm,No,Rr];simp only[acI,QQ,abg,aeN];apply PC;intro i _;simp only[Function.comp,N6];congr 2;omega
theorem Qz(n:Nat):∀(s:Bytes),numsL n s=if ∀x∈kC s n,x<4096 then some (kC s n,s.drop (4*n)) else none:=by
 induction n with
 | zero=>intro s;simp[numsL,kC]
 | succ n ih =>
  intro s;rw[numsL,ih,WZ];by_cases h:aM s<4096
  ·rw[Φ h]
   by_cases h2:∀x∈kC (s.drop 4) n,x<4096
   ·rw[Φ h2,Φ (fun x hx=>(MA.1 hx).elim (fun e=>by rw[e];exact h) (h2 x))]
    simp only[acz,N6];congr 3;omega
   ·rw[η h2,η (fun hc=>h2 fun x hx=>hc x (Mn _ hx))];rfl
  ·rw[η h,η (fun hc=>h (hc _ (Mu ..)))]
theorem MQ(l:Bytes)(h:l.dropWhile (·==0)=[]):∀x∈l,x=0:=by
 induction l with
 | nil=>intro x hx;simp at hx
 | cons y l ih =>
  by_cases hy:y=0
  ·rw[abJ (by simp[hy])] at h
   intro x hx;rcases MA.1 hx with e|hx
   ·rw[e,hy]
   ·exact ih h x hx
  ·rw[adb (by simp[hy])] at h
   simp at h
theorem PI(l:Bytes)(h:∀x∈l,x=0):l.dropWhile (·==0)=[]:=by
 induction l with
 | nil=>rfl
 | cons y l ih =>
  rw[abJ (by simp[h y])]
  exact ih (fun x hx=>h x (Mn _ hx))
theorem PK(l:Bytes)(x:UInt8)(h:x∈l)(hx:x≠0):x∈l.dropWhile (·==0):=by
 induction l with
 | nil=>simp at h
 | cons y l ih =>
  by_cases hy:y=0
  ·rw[abJ (by simp[hy])]
   rcases MA.1 h with e|h
   ·exact absurd (e.trans hy) hx
   ·exact ih h
  ·rw[adb (by simp[hy])]
   exact h
theorem pS(l:Bytes):(Lib.trimB l 0).isEmpty=l.all (·==0):=by
 rw[show(Lib.trimB l 0).isEmpty=decide (Lib.trimB l 0=[]) by cases Lib.trimB l 0<;>simp]
 unfold Lib.trimB Lib.trimLeftB Lib.trimRightB;by_cases h:∀x∈l,x=0
 ·have h1:l.reverse.dropWhile (·==0)=[]:=PI _ (fun x hx=>h x (acv.1 hx))
  rw[h1,abH.2 (fun x hx=>by rw[h x hx];rfl)]
  rfl
 ·have h2:l.all (·==0)=false:=by
   rw[ab5];intro hc;exact h (fun x hx=>by simpa using abH.1 hc x hx)
  rw[h2,Mz];intro hc;refine h (fun x hx=>?_)
  by_cases hz:x=0
  ·exact hz
  ·exact MQ _ hc x (acv.2 (PK _ x (acv.2 hx) hz))
theorem hasP(s p:Bytes)(n:Nat)(hp:p.length=n)(h:n≤s.length):Lib.hasPrefix s p=decide (s.take n=p):=by
 rw[←Lib.hasPrefix_of_take,hp,MM U,acd];by_cases he:s.take n=p
 ·rw[he,MM rfl];simp
 ·rw[Mz he];simp[he]
theorem hasS(s p:Bytes)(n k:Nat)(hp:p.length=n)(h:n≤s.length)(hk:s.length-n=k):Lib.hasSuffix s p=decide (s.drop k=p):=by
 rw[←Lib.hasSuffix_of_drop,hp,MM U,acd,hk];by_cases he:s.drop k=p
 ·rw[he,MM rfl];simp
 ·rw[Mz he];simp[he]
def Ln:Value→Nat
 | .string s=>s.data.size
 | _=>0
def uI(l:List Nat):List Value:=l.map fun x=>.int .i64 (x:Nat)
theorem yz:(prog.info? 3).map (fun i=>(i.zero,i.size,i.bytes))=some (some (.int .i64 0),1,8):=by kernel_rfl
theorem W9(w:World)(s:Bytes)(hs:s.length=256):
  Calls prog 281 #[ah s] w fun e w'=>(∃a v,e=.returned (.tuple #[a,v,.bool (dV s).isSome])∧∀seq l,dV s=some (seq,l)→a=.int .u64 (seq:Nat)∧w'.ownsRow w.heap.size 3 1 v l.length (uI l))∧Q w w':=by
 obtain⟨i0,hi,bY,bB,aW⟩:=info_parts yz;have cp:=fun (W:World)=>Tryz.strings_HasPrefix ⟨s.toArray⟩ ⟨#[67,68,88,84]⟩ W
 have cs:=fun (W:World)=>Tryz.strings_HasSuffix ⟨s.toArray⟩ ⟨#[67,68,88,69]⟩ W (by show s.length≤_;omega)
 have ct:=fun (x:Bytes) (hx:x.length≤1000) (W:World)=>Tryz.strings_Trim_one ⟨x.toArray⟩ 0 Z W (by show x.length≤_;omega)
 have hp:Lib.hasPrefix s [67,68,88,84]=decide (s.take 4=ek):=hasP s _ 4 rfl U;have OT:Lib.hasSuffix s [67,68,88,69]=decide (s.drop 252=du):=hasS s _ 4 252 rfl U U;rw[show(⟨s.toArray⟩:ByteArray).data.toList=s from rfl,show(⟨#[67,68,88,84]⟩:ByteArray).data.toList=[67,68,88,84] from rfl,hp] at cp
 rw[show(⟨s.toArray⟩:ByteArray).data.toList=s from rfl,show(⟨#[67,68,88,69]⟩:ByteArray).data.toList=[67,68,88,69] from rfl,OT] at cs
 have ctf:=fun (x:Bytes) (h4:4≤x.length) (h5:x.length≤1000) (W:World)=>IX x W h4 U
 have qN:dV s=if s.take 4=ek∧s.drop 252=du then(if 1≤aM (s.drop 12)∧aM (s.drop 12)≤48 then(if ∀x∈kC ((s.drop 16).take 232) (aM (s.drop 12)),x<4096 then(if (((s.drop 16).take 232).drop (4*aM (s.drop 12))).all (·==0) then some (aM (s.drop 8)*4294967296+aM (s.drop 4),kC ((s.drop 16).take 232) (aM (s.drop 12))) else none) else none) else none) else none:=by
  unfold dV;by_cases h1:s.take 4=ek∧s.drop 252=du
  ·rw[Φ ⟨hs,h1⟩,Φ h1]
   simp only[];split
   ·rw[Qz]
    by_cases h3:∀x∈kC ((s.drop 16).take 232) (aM (s.drop 12)),x<4096
    ·rw[Φ h3,Φ h3]
    ·rw[η h3,η h3]
   ·rfl
  ·rw[η (fun h=>h1 h.2),η h1]
 have CP:=Hd cp;have CS:=Hd cs;have CT:=Hd ct;have Ma:=Hd ctf;have FD:=Hd qN;have hl:(s.length:Int)=256:=U;clear cp cs ct ctf qN hp OT;by_cases hm:s.take 4=ek
 ·by_cases he:s.drop 252=du
  ·have qN:=FD.out
   rw[Φ ⟨hm,he⟩] at qN;rw[MM hm] at CP;rw[MM he] at CS;have h0:(⟨s.toArray⟩:ByteArray).extract 4 248=⟨((s.drop 4).take 244).toArray⟩:=eY s 4 248;have utk:=fun (x:Bytes) (m:Nat) (hm:4≤m)=>WX x m hm
   have a1:((s.drop 4).take 244).drop 4=(s.drop 8).take 240:=by rw[Ys,N6]
   have a2:((s.drop 8).take 240).drop 4=(s.drop 12).take 236:=by rw[Ys,N6]
   have a3:((s.drop 12).take 236).drop 4=(s.drop 16).take 232:=by rw[Ys,N6]
   have l0:((s.drop 4).take 244).length=244:=by rw[L4,L5];omega
   have l1:((s.drop 8).take 240).length=240:=by rw[L4,L5];omega
   have l2:((s.drop 12).take 236).length=236:=by rw[L4,L5];omega
   have l3:((s.drop 16).take 232).length=232:=by rw[L4,L5];omega
   have c0:=Ma.out _ (by omega:4≤((s.drop 4).take 244).length) U
   have c1:=Ma.out _ (by omega:4≤((s.drop 8).take 240).length) U
   have c2:=Ma.out _ (by omega:4≤((s.drop 12).take 236).length) U
   have cr:=fun (k:Nat) (hk:k<48)=>Ma.out (((s.drop 16).take 232).drop (4*k)) (by rw[L5];omega) (by rw[L5];omega)
   rw[utk _ _ U,a1] at c0;rw[utk _ _ U,a2] at c1;rw[utk _ _ U,a3] at c2;have b0:=eU (s.drop 4);have b1:=eU (s.drop 8);have b2:=eU (s.drop 12);clear utk a1 a2 a3 l0 l1 l2;have C0:=Hd c0;have C1:=Hd c1;have C2:=Hd c2;have CR:=Hd cr;have HT:=Hd qN;have H0:=Hd h0;clear c0 c1 c2 cr qN Ma FD h0 hs hm he;generalize (s.drop 4).take 244=A0 at *;generalize (s.drop 8).take 240=A1 at *;generalize (s.drop 12).take 236=A2 at *;generalize (s.drop 16).take 232=r0 at *;generalize aM (s.drop 4)=u0 at *;generalize aM (s.drop 8)=u1 at *;generalize aM (s.drop 12)=n at *;go_enter func281,ntmps281;go_wp2;go_step3;go_wp2_with fail;refine(CP.out _).mono ?_;rintro e w1 ⟨rfl,hw⟩;have hw:=hw.symm;subst hw;go_wp2_with fail;refine(CS.out _).mono ?_;rintro e w1 ⟨rfl,hw⟩;have hw:=hw.symm;subst hw;clear CP CS;go_wp2_with fail;rw[H0.out];refine(C0.out _).mono ?_;rintro e w1 ⟨rfl,q1⟩;have dF:=Hd q1;clear q1;go_wp2_with fail;refine(C1.out _).mono ?_;rintro e w2 ⟨rfl,q2⟩;have bJ:=Hd (dF.out.trans q2);clear q2;go_wp2_with fail;refine(C2.out _).mono ?_;rintro e w3 ⟨rfl,q3⟩;have fu:=Hd (bJ.out.trans q3);clear q3 dF bJ C0 C1 C2;by_cases qM:n<1
   ·have e1:(n:Int)<1:=U
    have bI:dV s=none:=by rw[HT.out,η U]
    have dY:=Hd bI;clear bI HT;go_wp2_with fail;rw[Exit.noGoto_ret];go_ret3;exact⟨⟨_,_,by rw[dY.out];rfl,fun _ _ h=>by rw[dY.out] at h;exact absurd h κ⟩,fu.out⟩
   by_cases kV:48<n
   ·have e1:¬(n:Int)<1:=U
    have e2:(48:Int)<(n:Int):=U;have bI:dV s=none:=by rw[HT.out,η U]
    have dY:=Hd bI;clear bI HT;go_wp2_with fail;rw[Exit.noGoto_ret];go_ret3;exact⟨⟨_,_,by rw[dY.out];rfl,fun _ _ h=>by rw[dY.out] at h;exact absurd h κ⟩,fu.out⟩
   have e1:¬(n:Int)<1:=U;have e2:¬(48:Int)<(n:Int):=U;have ht:=HT.out;rw[Φ U] at ht;have fG:=Hd ht;clear HT ht;have Fz:kC r0 0=[]:=rfl;have HP0:=Hd Fz;clear Fz;have AJ:w3.ownsRow w.heap.size 3 1 (.slice none 0 0) 0 (uI (kC r0 0)):=World.ownsRow_nil _ _ _ _;have afH:∀x∈kC r0 0,x<4096:=by rw[HP0.out];intro x hx;simp at hx
   have rU:r0.drop (4*0)=r0:=rfl;go_wp2_with fail;go_step3;go_wp2;go_loopw [6,12] (fun rv dv wr=>∃k:Nat,k≤n∧rv=ah (r0.drop (4*k))∧Hid (wr.ownsRow w.heap.size 3 1 dv k (uI (kC r0 k)))∧Hid (∀x∈kC r0 k,x<4096)∧Hid (Q w wr)) (fun rv _ _=>Ln rv)
   case atStart=>exact⟨0,L0 _,rfl,AJ,afH,fu⟩
   case round =>
    obtain⟨k,hk,rfl,HR,HA,lH⟩:=hrel;obtain⟨pa,pc,D5,nO⟩:=aY HR.out;subst D5;by_cases ay:k<n
    ·have hb:((k:Int)==(n:Int))=false:=Γ.2 U
     have hc:=CR.out k U wr;have lW:(r0.drop (4*k)).drop 4=r0.drop (4*(k+1)):=by rw[N6];congr 1
     have fT:(r0.drop (4*(k+1))).length<(r0.drop (4*k)).length:=by rw[L5,L5];omega
     have hpu:=WY r0 k;rw[lW] at hc;have nk:=eU (r0.drop (4*k));have Mc:=wA r0 n k ay;have HME:=Hd Mc;clear Mc;have HC:=Hd hc;have uN:=Hd fT;have HPU:=Hd hpu;clear hc lW fT hpu;generalize aM (r0.drop (4*k))=u at *;generalize r0.drop (4*k)=x0 at *;by_cases h4:u<4096
     ·have h5:¬(4096:Int)≤(u:Int):=U
      have jy:∀x∈kC r0 (k+1),x<4096:=by
       rw[HPU.out];intro x hx;rcases My.1 hx with hx|hx
       ·exact HA.out x hx
       ·rw[Mo.1 hx];exact h4
      have OU:=Hd jy;clear jy;go_wp2_with fail;refine HC.out.mono ?_;rintro e w5 ⟨rfl,q5⟩;have kJ:=lH.out.trans q5;have yh:=ownsRow_below HR.out q5;have jK:=Hd kJ;have Af:=Hd yh;have cO:∀u'∈#[(.int .i64 (u:Nat):Value)].toList,u'.oneCell'=true:=by intro u' hu;simp at hu;subst hu;rfl
      have dI:(k+1)*8≤140737488355328:=U;have vg:=Hd cO;have xI:=Hd dI;clear kJ yh q5 cO dI;go_wp2_with (at_builtin;refine bG w5 ρ _ _ 51 ρ w.heap.size 3 _ i0 (.int .i64 0) 1 8 underlying51 hi bY bB aW rfl Z Z _ _ _ ρ Af.out #[.int .i64 (u:Nat)] ρ rfl vg.out xI.out jK.out.size ?_)
      intro g cap w6 hr hg ho nR nX;have yj:Q w w6:=bD jK.out Af.out hg (Ω _) jK.out.size;have hr6:w6.ownsRow w.heap.size 3 1 (.slice (some ⟨g,0,none⟩) (k+1) cap) (k+1) (uI (kC r0 (k+1))):=by rw[HPU.out];unfold uI;rw[N5];exact hr
      have OV:=Hd hr6;have lG:=Hd yj;clear hr hg ho yj hr6;go_wp2_with fail;go_roundw;case rel=>exact⟨k+1,U,rfl,OV,OU,lG⟩
      case measure=>exact uN.out
     ·have h5:(4096:Int)≤(u:Int):=U
      have bI:dV s=none:=by rw[fG.out,η (fun h=>h4 (h _ HME.out))]
      have dY:=Hd bI;clear bI;go_wp2_with fail;refine HC.out.mono ?_;rintro e w5 ⟨rfl,q5⟩;have jK:=Hd (lH.out.trans q5);clear q5;go_wp2_with fail;rw[Exit.noGoto_ret];go_ret3;exact⟨⟨_,_,by rw[dY.out];rfl,fun _ _ h=>by rw[dY.out] at h;exact absurd h κ⟩,jK.out⟩
    ·have hb:((k:Int)==(n:Int))=true:=MY.2 U
     obtain rfl:k=n:=U;have ct:=CT.out (r0.drop (4*k)) (by rw[L5];omega) wr
     have VI:=pS (r0.drop (4*k));have ht:=fG.out;rw[Φ HA.out] at ht;have CTT:=Hd ct;have HTR:=Hd VI;have rP:=Hd ht;clear ct VI ht;have oP:(r0.drop (4*k)).length≤1000:=by rw[L5];omega
     generalize r0.drop (4*k)=x0 at *;go_wp2_with fail;refine CTT.out.mono ?_;rintro e w5 ⟨rfl,q5⟩;have q5':Q wr w5:=q5.elim (fun h=>by rw[h];exact Q.refl _) (fun h=>by rw[h];exact Q.drew _)
     have jK:=Hd (lH.out.trans q5');have Af:=Hd (ownsRow_below HR.out q5');clear q5 q5';go_wp2_with fail;rw[Lo u1 u0 _ b1 b0 rfl,Exit.noGoto_ret];have dK:(dV s).isSome=x0.all (·==0)∧∀seq l,dV s=some (seq,l)→u1*4294967296+u0=seq∧kC r0 k=l:=by
      rw[rP.out];cases x0.all (·==0) with
      | true=>exact⟨rfl,fun seq l h=>by simp only[PM,M3,QR] at h;exact h⟩
      | false=>exact⟨rfl,fun seq l h=>absurd h κ⟩
     have HF:=Hd dK;have hlen:=AU r0 k;have FE:=Hd hlen;clear dK hlen;go_ret3;refine⟨⟨_,_,by rw[HF.out.1,HTR.out];rfl,fun seq l h=>?_⟩,jK.out⟩
     obtain⟨h1,h2⟩:=HF.out.2 seq l h;subst h1;subst h2;rw[FE.out];exact⟨rfl,Af.out⟩
  ·have bI:dV s=none:=by rw[FD.out,η (fun h=>he h.2)]
   rw[MM hm] at CP;rw[Mz he] at CS;rw[bI];clear FD bI CT Ma;go_enter func281,ntmps281;go_wp2;go_step3;go_wp2_with fail;refine(CP.out _).mono ?_;rintro e w1 ⟨rfl,hw⟩;have hw:=hw.symm;subst hw;go_wp2_with fail;refine(CS.out _).mono ?_;rintro e w1 ⟨rfl,hw⟩;have hw:=hw.symm;subst hw;go_wp2_with fail;rw[Exit.noGoto_ret];go_ret3;exact⟨⟨_,_,rfl,fun _ _ h=>absurd h κ⟩,Q.refl _⟩
 ·have bI:dV s=none:=by rw[FD.out,η (fun h=>hm h.1)]
  rw[Mz hm] at CP;rw[bI];clear FD bI CS CT Ma;go_enter func281,ntmps281;go_wp2;go_step3;go_wp2_with fail;refine(CP.out _).mono ?_;rintro e w1 ⟨rfl,hw⟩;have hw:=hw.symm;subst hw;go_wp2_with fail;rw[Exit.noGoto_ret];go_ret3;exact⟨⟨_,_,rfl,fun _ _ h=>absurd h κ⟩,Q.refl _⟩
theorem IY{s:Bytes}{seq:Nat}{l:List Nat}(h:dV s=some (seq,l)):s.length=256∧s.drop 252=du∧1≤l.length∧l.length≤48∧(∀x∈l,x<4096)∧seq<18446744073709551616:=by
 unfold dV at h;split at h
 ·rename_i h1
  simp only[] at h;split at h
  ·rename_i h2
   rw[Qz] at h;split at h
   ·rename_i l' r he
    split at he
    ·rename_i h3
     simp only[M3,QR] at he;split at h
     ·simp only[M3,QR] at h
      obtain⟨rfl,rfl⟩:=h;rw[←he.1];have:=eU (s.drop 8);have:=eU (s.drop 4);refine⟨h1.1,h1.2.2,by rw[AU];exact h2.1,by rw[AU];exact h2.2,h3,U⟩
     ·exact absurd h κ
    ·exact absurd he κ
   ·exact absurd h κ
  ·exact absurd h κ
 ·exact absurd h κ
theorem QC(l:List Nat)(k:Nat)(h:k<l.length):(uI l)[k]?=some (.int .i64 (l.getD k 0:Nat)):=by simp[uI,h]
theorem ym(c:Nat)(b:Bytes)(hb:b.length=256)(he:b.drop 252=du):(aB c++du=b.drop 248)↔(aB c=(b.drop 248).take 4):=by
 have h1:b.drop 248=(b.drop 248).take 4++du:=by
  rw[←he,show(252:Nat)=248+4 from rfl,←N6,OR]
 constructor
 ·intro h
  rw[←h];exact(SU (aH c)).symm
 ·intro h
  rw[h];exact h1.symm
theorem iy{w:World}{g n cap size:Nat}{xs:List Value}(h:Sl w (.slice (some ⟨g,0,none⟩) n cap) n size xs)(hn:0<n)(j:Nat)(u:Value)(hj:xs[j]?=some u):w.cell? ⟨g,j,none⟩=some u:=by
 obtain⟨_,a,c,hv,cO⟩:=h;obtain⟨b2,off,rfl,dI⟩:=cO hn;have h2:=dI j u hj;injection hv with hv _ _;injection hv with hv;injection hv with hv1 hv2 _;subst hv1;subst hv2;rwa [On] at h2
theorem MR(l:List Bytes)(k:Nat)(h:k<l.length):(l.map ah)[k]?=some (ah (l.getD k [])):=by
 rw[SR,LR,LN h];rfl
theorem BC(l:List Nat)(r:List Bytes)(k:Nat)(h:k<l.length)(h2:l.length≤r.length):aN ((l.zip r).take (k+1))=aN ((l.zip r).take k)++[.int .i64 (l.getD k 0:Nat),ah (r.getD k [])]:=by
 have h3:k<(l.zip r).length:=by rw[WP];omega
 rw[Mb h3,iF,List.getElem_zip,LR,LR,LN h,LN (by omega:k<r.length)]
 simp[aN,mX]
theorem ry(c b:Bytes)(hb:b.length=256):(!((({ data:=c.toArray }:ByteArray)++{ data:=#[67,68,88,69] }).toList==(({ data:=b.toArray }:ByteArray).extract 248 256).toList)) = !decide (c++du=b.drop 248):=by
 rw[show({ data:=#[67,68,88,69] }:ByteArray)=⟨du.toArray⟩ from rfl,bytes_append,eY,Mp (by rw[L5];omega)]
 rw[ByteArray.toList_eq,ByteArray.toList_eq];by_cases h:c++du=b.drop 248<;>simp[h]
theorem Xa(w:World)(base:Nat)(lv:Value)(ls:List Bytes)(h:w.ownsRow base 9 1 lv ls.length (ls.map ah))(hn:ls.length≤49)(hl:∀s∈ls,s.length=256):
  Calls prog 264 #[lv] w fun e w'=>(∃a v x,e=.returned (.tuple #[a,v,.int .i64 x])∧(eD ls=none→x≠0)∧∀seq ws,eD ls=some (seq,ws)→x=0∧a=.int .u64 (seq:Nat)∧w'.ownsRow w.heap.size 134 2 v ws.length (aN ws))∧Q w w':=by
 obtain⟨i0,hi,bY,bB,aW⟩:=info_parts nC;obtain⟨la,lc,rfl,om⟩:=aY h;have bX:=Sl.cx h;cases ls with
 | nil =>
  go_enter func264,ntmps264;go_wp2_with fail;go_ret3;exact⟨⟨_,_,_,rfl,fun _=>Z,fun _ _ hc=>by simp[eD] at hc⟩,Q.refl _⟩
 | cons b rest =>
  obtain⟨lb,rfl⟩:=om κ;have RX:(b::rest).length≤lc:=by
   rcases h.2 with ⟨h1,_⟩|⟨g,cap,cur,h1,_,_,h2,_⟩
   ·cases h1
   ·injection h1 with _ _ h1
    omega
  have tO:∀k (hk:k<(b::rest).length),w.cell? ⟨lb,k,none⟩=some (ah ((b::rest).getD k [])):=fun k hk=>iy bX κ k _ (MR _ k hk)
  have x0:=tO 0 κ;simp only[acL] at x0;have hb:=hl b (Mu ..);have cr:=W9 w b hb;rw[Θ] at *;have nV:eD (b::rest)=match dV b with
   | none=>none
   | some (seq,at_)=>if rest.length<at_.length∨∃s∈rest.take at_.length,s.length≠256 then none
     else if aB (fU (b.take 248++(rest.take at_.length).flatten))=(b.drop 248).take 4 then some (seq,at_.zip rest) else none:=rfl
  have CR:=Hd cr;have HL:=Hd hl;have HC:=Hd tO;have zL:=Hd nV;have xG:=Hd bX;have HO:=Hd h;clear cr hl tO nV bX h;have aU:¬((rest.length:Int)+1=0):=U;cases Hq:dV b with
  | none =>
   rw[Hq] at CR zL;have bI:eD (b::rest)=none:=zL.out;rw[bI];clear zL bI;go_enter func264,ntmps264;go_wp2_with fail;refine CR.out.mono ?_;rintro e w1 ⟨⟨a,v,rfl,_⟩,q1⟩;simp only[Option.isSome];go_wp2_with fail;go_ret3;exact⟨⟨_,_,_,rfl,fun _=>Z,fun _ _ hc=>absurd hc κ⟩,q1⟩
  | some r =>
   obtain⟨seq,at_⟩:=r;rw[Hq] at CR zL;obtain⟨_,hend,qM,kV,pU,Sj⟩:=IY Hq;clear Hq;by_cases hlen:rest.length<at_.length
   ·have bI:eD (b::rest)=none:=by rw[zL.out];simp only[];rw[Φ (.inl hlen)]
    rw[bI];clear zL bI;go_enter func264,ntmps264;go_wp2_with fail;refine CR.out.mono ?_;rintro e w1 ⟨⟨a,v,rfl,hs⟩,q1⟩;obtain⟨rfl,hr⟩:=hs seq at_ rfl;obtain⟨pa,pc,rfl,_⟩:=aY hr;simp only[Option.isSome];have hh:(rest.length:Int)+1<1+(at_.length:Int):=U;go_wp2_with fail;go_ret3;exact⟨⟨_,_,_,rfl,fun _=>Z,fun _ _ hc=>absurd hc κ⟩,q1⟩
   ·go_enter func264,ntmps264
    go_wp2_with fail;refine CR.out.mono ?_;rintro e w1 ⟨⟨a,v,rfl,hs⟩,q1⟩;obtain⟨rfl,hr⟩:=hs seq at_ rfl;obtain⟨pa,pc,rfl,nO⟩:=aY hr;simp only[Option.isSome];have hh:¬(rest.length:Int)+1<1+(at_.length:Int):=U;have HR:=Hd hr;have dF:=Hd q1;clear hr q1 hs;have zI:∀k,k<at_.length→∃ga,pa=some ⟨ga,0,none⟩∧w1.cell? ⟨ga,k,none⟩=some (.int .i64 (at_.getD k 0:Nat)):=fun k hk=>by
     obtain⟨ga,rfl⟩:=nO U;exact⟨_,rfl,iy (Sl.cx HR.out) U k _ (QC at_ k hk)⟩
    have JA:∀k,k<at_.length→w1.cell? ⟨lb,1+k,none⟩=some (ah (rest.getD k []))∧(rest.getD k []).length=256:=fun k hk=>by
     have h1:=HC.out (k+1) U;rw[abM,abX] at h1;refine⟨aI dF.out h1,?_⟩;rw[LR,LN (by omega:k<rest.length)]
     exact HL.out _ (Mn _ (LO _))
    have xX:(at_.zip rest).length=at_.length:=by rw[WP];omega
    have jl:=fun (k:Nat) (hk:k<at_.length)=>BC at_ rest k hk U
    have CG:=Hd zI;have VJ:=Hd JA;have HZL:=Hd xX;have HZS:=Hd jl;have AJ:w1.ownsRow w1.heap.size 134 2 (.slice none 0 0) 0 (aN ((at_.zip rest).take 0)):=World.ownsRow_nil _ _ _ _;clear zI JA xX jl;go_wp2_with fail;go_loopw [8,40] (fun ov i wr=>∃k:Nat,i=.int .i64 (k:Nat)∧k≤at_.length∧Hid (wr.ownsRow w1.heap.size 134 2 ov k (aN ((at_.zip rest).take k)))∧Hid (Q w1 wr)) (fun _ i _=>at_.length-(intOf i).toNat)
    case atStart=>exact⟨0,rfl,L0 _,AJ,Hd (Q.refl _)⟩
    case round =>
     obtain⟨k,rfl,hk,HOW,bJ⟩:=hrel;by_cases ay:k<at_.length
     ·have bq:(k:Int)<(at_.length:Int):=U
      obtain⟨ga,rfl,x1⟩:=CG.out k ay;obtain⟨x2,Yy⟩:=VJ.out k ay;have y1:=aI bJ.out x1;have y2:=aI bJ.out x2;have Md:((rest.getD k []).length:Int)=256:=U;have jl:=HZS.out k ay;have HZ:=Hd jl;clear jl x1 x2 Yy;generalize at_.getD k 0=bk at *;generalize rest.getD k []=dk at *;have cO:∀u∈#[Value.int .i64 (bk:Nat),ah dk].toList,u.oneCell'=true:=by intro u hu;simp at hu;rcases hu with rfl|rfl<;>rfl
      have dI:(k+1)*24≤140737488355328:=U;have OQ:=dF.out.trans bJ.out;have vg:=Hd cO;have xI:=Hd dI;have VH:=Hd OQ;clear cO dI OQ;go_wp2_with (at_builtin;refine bG wr ρ _ _ 102 ρ w1.heap.size 134 _ i0 (.agg #[.int .i64 0,ah []]) 2 24 underlying102 hi bY bB aW rfl Z Z _ _ _ ρ HOW.out #[.int .i64 (bk:Nat),ah dk] ρ rfl vg.out xI.out bJ.out.size ?_)
      intro g2 cap2 w2 pW hg ho nR nX;have eG:Q w1 w2:=bD bJ.out HOW.out hg (Ω _) bJ.out.size;have Zn:w2.ownsRow w1.heap.size 134 2 (.slice (some ⟨g2,0,none⟩) (k+1) cap2) (k+1) (aN ((at_.zip rest).take (k+1))):=by rw[HZ.out];exact pW
      have VK:=Hd Zn;have fu:=Hd eG;clear pW hg ho Zn eG;go_wp2_with fail;go_roundw;case rel=>exact⟨k+1,by go_num,U,VK,fu⟩
      case measure=>simp[intOf];omega
     ·have bq:¬(k:Int)<(at_.length:Int):=U
      obtain rfl:k=at_.length:=U;have gV:((rest.take at_.length).map ah).length=at_.length:=by rw[NE,L4];omega
      have hsd:Strs w1 (.slice (some ⟨lb,1,none⟩) at_.length (lc-1)) (rest.take at_.length):=by
       unfold Strs;rw[show(rest.take at_.length).length=at_.length by rw[L4];omega]
       refine⟨by rw[gV,abq],_,_,rfl,fun _=>⟨lb,1,rfl,fun j u hj=>?_⟩⟩
       have zD:j<at_.length:=by
        have:=(NX.1 hj).1;omega
       rw[MR _ j (by rw[L4];omega)] at hj
       have h2:=(VJ.out j zD).1;rw[←hj,h2,LR,LR,adz zD]
      have csm:=fun (V:World) (hq:Q w1 V)=>oe V (b.take 248) _ (rest.take at_.length) (Strs.stays hsd hq) (by rw[L4];omega) (by rw[L4];omega) (fun p hp=>by have:=HL.out p (Mn _ (P3 hp));omega)
      have aC:=ym (fU (b.take 248++(rest.take at_.length).flatten)) b hb hend;have nV:eD (b::rest)=if aB (fU (b.take 248++(rest.take at_.length).flatten))=(b.drop 248).take 4 then some (seq,at_.zip rest) else none:=by
       rw[zL.out,η];rintro(hc|⟨q,hq,Du⟩)
       ·exact hlen hc
       ·exact Du (HL.out q (Mn _ (P3 hq)))
      have CSM:=Hd csm;have aX:=Hd aC;have VL:=Hd nV;clear gV hsd csm aC nV zL CG VJ;generalize nU:fU (b.take 248++(rest.take at_.length).flatten)=cr at *;have y0:=aI (dF.out.trans bJ.out) x0;have KK:=Hd (Q.refl wr);have l4:(aB cr).length=4:=rfl;have amn:¬(b.length:Int)<248:=U;have bN:(248:Int)≤(b.length:Int):=U;go_upto_region 15 with fail;go_region_held3 (fun w'=>w'.cell? ⟨lb,0,none⟩=some (ah b))
       (first|exact y0|exact aI δ y0)
       (first|(go_at_call 258;rw[uD b 248];with_reducible refine(CSM.out _ (bJ.out.trans ω)).mono ?_;rintro e w5 ⟨rfl,q5⟩;have s':Q wr w5:=Q.trans ω q5;clear KK;have KK:=Hd s';clear s' q5))
      all_goals
       have vk:=ry (aB cr) b hb;by_cases hc:aB cr++du=b.drop 248
       ·rw[MM hc,Bool.not_true] at vk
        have hu:=VL.out;rw[Φ (aX.out.1 hc)] at hu;have HUU:=Hd hu;clear hu;have wJ:w5.ownsRow w.heap.size 134 2 u8 (at_.zip rest).length (aN (at_.zip rest)):=by
         rw[HZL.out];have h1:=ownsRow_below HOW.out KK.out;rw[show(at_.zip rest).take at_.length=at_.zip rest from Mp (by rw[HZL.out];exact Ω _)] at h1
         exact gT h1 dF.out.size
        have HW5:=Hd wJ;have jK:=Hd (dF.out.trans (bJ.out.trans KK.out));clear wJ;go_wp2_with fail;all_goals (try (rename_i hx;exact absurd (hx.symm.trans vk) Z))
        go_ret3;refine⟨⟨_,_,_,rfl,fun h=>by rw[HUU.out] at h;exact absurd h κ,fun sq ws h=>?_⟩,jK.out⟩
        rw[HUU.out] at h;simp only[M3,QR] at h;obtain⟨rfl,rfl⟩:=h;exact⟨rfl,rfl,HW5.out⟩
       ·rw[Mz hc,Bool.not_false] at vk
        have hu:=VL.out;rw[η (fun h=>hc (aX.out.2 h))] at hu
        have HUU:=Hd hu;have jK:=Hd (dF.out.trans (bJ.out.trans KK.out));clear hu;go_wp2_with fail;all_goals (try (rename_i hx;exact absurd (hx.symm.trans vk) Z))
        go_ret3;exact⟨⟨_,_,_,rfl,fun _=>Z,fun sq ws h=>by rw[HUU.out] at h;exact absurd h κ⟩,jK.out⟩
theorem IZ{l:List Bytes}{seq:Nat}{ws:List WrL}(h:eD l=some (seq,ws)):ws.length≤48∧seq<18446744073709551616∧∀w∈ws,w.1<4096:=by
 cases l with
 | nil=>exact absurd h (by simp[eD])
 | cons b rest =>
  unfold eD at h;simp only[] at h;cases hh:dV b with
  | none=>rw[hh] at h;exact absurd h κ
  | some r =>
   obtain⟨sq,at_⟩:=r;rw[hh] at h;simp only[] at h;obtain⟨_,_,_,h4,h5,h6⟩:=IY hh;split at h
   ·exact absurd h κ
   ·split at h
    ·simp only[M3,QR] at h
     obtain⟨rfl,rfl⟩:=h;refine⟨by rw[WP];omega,h6,fun w hw=>h5 _ (List.of_mem_zip hw).1⟩
    ·exact absurd h κ
def JL.ahead(j:JL)(n:Nat):List Bytes:=(List.range n).map fun i=>j.d.get (j.place i)
theorem JL.gA(j:JL)(n:Nat):(j.ahead n).length=n:=by simp[JL.ahead]
theorem JL.lm(j:JL)(n:Nat):j.ahead (n+1)=j.ahead n++[j.d.get (j.place n)]:=by simp[JL.ahead,Ty]
theorem Xb(w:World)(F:Nat→Prop)(p b:Nat)(j:JL)(h:cG w F p b j)(hn:fW j)(lI:j.d.dead=false)(oP:2+j.s.log≤j.d.l.length)(hu:j.used≤j.s.log):
  Calls prog 218 #[au p] w fun e w'=>(∃v,e=.returned (.tuple #[v,.bool j.frame.isSome])∧∀ws,j.frame=some ws→w'.ownsRow w.heap.size 134 2 v ws.length (aN ws))∧Q w w':=by
 obtain⟨i0,hi,bY,bB,aW⟩:=info_parts DN;obtain⟨n,kT⟩:∃n:Nat,n=min (j.s.log-j.used) 49:=⟨_,rfl⟩;have bW:∀k,2≤j.place k∧j.place k<j.d.l.length:=fun k=>by
  have:=gG j.s (j.used+k) hn.log;unfold JL.place;omega
 have dz:∀k,j.d.read ((j.place k:Nat):Int)=(j.d.get (j.place k),0):=fun k=>by
  unfold af.read;rw[af.gC lI _ (bW k).2,Φ rfl];rfl
 have ET:∀s∈j.ahead n,s.length=256:=fun s hs=>by
  obtain⟨i,_,rfl⟩:=MD.1 hs;exact af.gh hn.ok _ (bW i).2
 have pV:∀k,(j.d.get (j.place k)).length=256:=fun k=>af.gh hn.ok _ (bW k).2
 have dQ:j.frame=match eD (j.ahead n) with
   | some (seq,ws)=>if seq=j.next∧∀w∈ws,j.home≤w.1∧w.1<j.d.l.length then some ws else none
   | none=>none:=by unfold JL.frame JL.ahead;rw[kT];rfl
 have cpl:=fun (W:World) (hq:Q w W) (k:Nat) (hk:k≤1000000)=>vZ W p b j k (h.keep hq).box hn.log hn.log2 hn.place hn.used hk
 have crd:=fun (W:World) (hq:Q w W) (k:Nat)=>AQ W F b j.d (j.place k:Nat) (h.keep hq).dev hn.ok.max (fun hx=>by have:=hn.eJ hx;omega)
 have chm:=fun (W:World) (hq:Q w W) (i:Int)=>NJ W F p b j i (h.keep hq).box (h.keep hq).dev hn.log2
 have cun:=fun (W:World) (base:Nat) (lv:Value) (hv:W.ownsRow base 9 1 lv n ((j.ahead n).map ah))=>Xa W base lv (j.ahead n) (by rw[j.gA];exact hv) (by rw[j.gA];omega) ET
 have has:=j.lm;obtain⟨c0,c1,c2,c3,c4,c5,c6,c7⟩:=h.box.c8;have Sk:=Hd cpl;have CRD:=Hd crd;have CHM:=Hd chm;have Zo:=Hd cun;have HAS:=Hd has;have pY:=Hd dQ;have iO:=Hd dz;have FH:=Hd pV;have HH:=Hd (And.intro h.box h.dev);have HN:=Hd hn;have cH:=hn.log2;have pO:=hn.used;have jB:IntKind.i64.wrap ((j.s.log:Int)-(j.used:Int))=(j.s.log:Int)-(j.used:Int):=IntWalk.i64_in _ U;have aik:n≤49:=U;have hni:(n:Int)=min ((j.s.log:Int)-(j.used:Int)) 49:=U;clear cpl crd chm cun has dQ dz bW ET pV h hn kT;go_enter func218,ntmps218;go_upto_region 2 with fail;go_region;all_goals
  go_wp2_with fail;rw[←hni];have ji:Q w w.drew:=Q.drew w;have AJ:w.drew.ownsRow w.heap.size 9 1 (.slice none 0 0) 0 ((j.ahead 0).map ah):=World.ownsRow_nil _ _ _ _;clear jB hni;go_loopw [4,24] (fun lv i wr=>∃k:Nat,i=.int .i64 (k:Nat)∧k≤n∧Hid (wr.ownsRow w.heap.size 9 1 lv k ((j.ahead k).map ah))∧Hid (Q w wr)) (fun _ i _=>n-(intOf i).toNat)
  case atStart=>exact⟨0,rfl,L0 _,AJ,ji⟩
  case round =>
   obtain⟨k,rfl,hk,HOW,HQ⟩:=hrel;by_cases ay:k<n
   ·have bq:(k:Int)<(n:Int):=U
    have x0:=aI HQ.out c0;have Ag:=iO.out k;have Fu:=HAS.out k;have Jy:=FH.out k;have hc:=CRD.out;have Zp:=Hd (fun (W:World) (hq:Q w W)=>hc W hq k)
    rw[Ag] at Zp;have LZ:=Sk.out;have CPK:=Hd (fun (W:World) (hq:Q w W)=>LZ W hq k U)
    have HS:=Hd Fu;have KK:=Hd (Q.refl wr);clear Ag Fu hc LZ;generalize j.place k=plk at *;generalize j.d.get plk=gk at *;go_upto_region 5 with fail;go_region_held3 (fun w'=>w'.cell? ⟨p,0,none⟩=some (au b))
     (first|exact x0|exact aI δ x0)
     (first
      | (go_at_call 204;with_reducible refine(CPK.out _ (HQ.out.trans ω)).mono ?_;rintro e w5 ⟨rfl,q5⟩;have s':Q wr w5:=Q.trans ω q5;clear KK;have KK:=Hd s';clear s' q5)
      | (go_at_call 151;with_reducible refine(Zp.out _ (HQ.out.trans ω)).mono ?_;rintro e w6 ⟨rfl,q6⟩;have s':Q wr w6:=Q.trans ω q6;clear KK;have KK:=Hd s';clear s' q6))
    all_goals
     have yh:=ownsRow_below HOW.out KK.out;have kJ:=HQ.out.trans KK.out;have cO:∀u∈#[ah gk].toList,u.oneCell'=true:=by intro u hu;simp at hu;subst hu;rfl
     have dI:(k+1)*16≤140737488355328:=U;have Af:=Hd yh;have jK:=Hd kJ;have vg:=Hd cO;have xI:=Hd dI;clear yh kJ cO dI x0;go_wp2_with (at_builtin;refine bG w6 ρ _ _ 101 ρ w.heap.size 9 _ i0 (ah []) 1 16 underlying101 hi bY bB aW rfl Z Z _ _ _ ρ Af.out #[ah gk] ρ rfl vg.out xI.out jK.out.size ?_)
     intro g cap w7 hr hg ho nR nX;have wK:Q w w7:=bD jK.out Af.out hg (Ω _) jK.out.size;have nZ:w7.ownsRow w.heap.size 9 1 (.slice (some ⟨g,0,none⟩) (k+1) cap) (k+1) ((j.ahead (k+1)).map ah):=by rw[HS.out,N5];exact hr
     have OW:=Hd nZ;have lJ:=Hd wK;clear hr hg ho nZ wK;go_wp2_with fail;go_roundw;case rel=>exact⟨k+1,by go_num,U,OW,lJ⟩
     case measure=>simp[intOf];omega
   ·have bq:¬(k:Int)<(n:Int):=U
    obtain rfl:k=n:=U;have cun:=Zo.out wr w.heap.size u4 HOW.out;have CU:=Hd cun;clear cun;go_wp2_with fail;refine CU.out.mono ?_;rintro e w1 ⟨⟨a,v,x,rfl,sJ,mh⟩,q1⟩;have pR:=HQ.out.trans q1;have dF:=Hd pR;clear q1 pR;cases nk:eD (j.ahead k) with
    | none =>
     have hx:=sJ nk;have bI:j.frame=none:=by rw[pY.out,nk]
     have dY:=Hd bI;have hxb:(!(x==0))=true:=by rw[Γ.2 hx];rfl
     clear bI nk sJ mh Zo CU pY;go_wp2_with fail;go_ret2;exact⟨⟨_,by rw[dY.out];rfl,fun ws h=>by rw[dY.out] at h;exact absurd h κ⟩,dF.out⟩
    | some r =>
     obtain⟨seq,ws⟩:=r;obtain⟨rfl,rfl,dP⟩:=mh seq ws nk;have y6:=aI dF.out c6;have dQ:=pY.out;rw[nk] at dQ;simp only[] at dQ;have amx:=(IZ nk).1;have VN:=Hd dQ;have lu:=Hd dP;clear nk sJ mh Zo CU pY dQ dP;by_cases Sj:seq=j.next
     ·have vk:(!((seq:Int)==(j.next:Int)))=false:=by rw[MY.2 U];rfl
      obtain⟨pa,pc,rfl,nO⟩:=aY lu.out;have aP:∀k (hk:k<ws.length),∃g,pa=some ⟨g,0,none⟩∧w1.cell? ⟨g,k*2,none⟩=some (.int .i64 (ws[k].1:Nat))∧w1.cell? ⟨g,k*2+1,none⟩=some (ah ws[k].2):=fun k hk=>by
       obtain⟨g,rfl⟩:=nO U;have hs:=Sl.cx lu.out;exact⟨g,rfl,iy hs U _ _ (fQ ws k hk).1,iy hs U _ _ (fQ ws k hk).2⟩
      have xW:=Hd aP;clear aP;go_wp2_with fail;go_loopw [61] (fun v w2=>∃m:Nat,v=.int .i64 (m:Nat)∧m≤ws.length∧Hid (∀i (hi:i<ws.length),i<m→j.home≤ws[i].1∧ws[i].1<j.d.l.length)∧Hid (Q w1 w2)) (fun v _=>ws.length-(intOf v).toNat)
      case atStart=>exact⟨0,rfl,L0 _,Hd (fun i hi h=>absurd h U),Hd (Q.refl _)⟩
      case round =>
       obtain⟨m,rfl,hm,OU,bJ⟩:=hrel;by_cases adp:m<ws.length
       ·have bq:(m:Int)<(ws.length:Int):=U
        obtain⟨ga,rfl,x1,x2⟩:=xW.out m adp;have y1:=aI bJ.out x1;have y2:=aI bJ.out x2;have jJ:=Q.alloc wr (.cells #[.int .i64 (ws[m].1:Nat),ah ws[m].2] 134);have zX:=CHM.out _ (dF.out.trans (bJ.out.trans jJ)) (ws[m].1:Nat);by_cases bQ:j.home≤ws[m].1∧ws[m].1<j.d.l.length
        ·have e1:decide ((j.home:Int)≤((ws[m].1:Nat):Int))=true:=MM U
         have e2:decide (((ws[m].1:Nat):Int)<(j.d.l.length:Int))=true:=MM U;rw[e1,e2] at zX;have jy:∀i (hi:i<ws.length),i<m+1→j.home≤ws[i].1∧ws[i].1<j.d.l.length:=fun i hi h=>by
          by_cases him:i<m
          ·exact OU.out i hi him
          ·obtain rfl:i=m:=U
           exact bQ
         have Jt:=Hd zX;have zH:=Hd (bJ.out.trans jJ);have HA2:=Hd jy;clear zX jJ x1 x2 e1 e2 bQ jy;generalize ws[m].1=bk at *;generalize ws[m].2=dk at *;go_wp2_with fail;refine Jt.out.mono ?_;rintro e w3 ⟨rfl,rfl⟩;go_wp2_with fail;go_roundw;case rel=>exact⟨m+1,by go_num,U,HA2,zH⟩
         case measure=>simp[intOf];omega
        ·have e1:(decide ((j.home:Int)≤((ws[m].1:Nat):Int))&&decide (((ws[m].1:Nat):Int)<(j.d.l.length:Int)))=false:=by
          by_cases h1:j.home≤ws[m].1
          ·have h2:¬ws[m].1<j.d.l.length:=fun h=>bQ ⟨h1,h⟩
           rw[Mz (p:=((ws[m].1:Nat):Int)<(j.d.l.length:Int)) U,Bool.and_false]
          ·rw[Mz (p:=(j.home:Int)≤((ws[m].1:Nat):Int)) U,Bool.false_and]
         rw[e1] at zX;have bI:j.frame=none:=by rw[VN.out,η (fun h=>bQ (h.2 _ (LO adp)))]
         have dY:=Hd bI;have Jt:=Hd zX;have zH:=Hd (dF.out.trans (bJ.out.trans jJ));clear zX jJ x1 x2 e1 bQ bI;generalize ws[m].1=bk at *;generalize ws[m].2=dk at *;go_wp2_with fail;refine Jt.out.mono ?_;rintro e w3 ⟨rfl,rfl⟩;go_wp2_with fail;go_ret2;exact⟨⟨_,by rw[dY.out];rfl,fun ws h=>by rw[dY.out] at h;exact absurd h κ⟩,zH.out⟩
       ·have bq:¬(m:Int)<(ws.length:Int):=U
        obtain rfl:m=ws.length:=U;have Sm:j.frame=some ws:=by
         rw[VN.out,Φ ⟨Sj,fun x hx=>by obtain⟨i,hi,rfl⟩:=PH hx;exact OU.out i hi hi⟩]
        have HY:=Hd Sm;have fu:=Hd (dF.out.trans bJ.out);have VK:=Hd (gT (ownsRow_below lu.out bJ.out) HQ.out.size);clear Sm;go_wp2_with fail;go_ret2;exact⟨⟨_,by rw[HY.out];rfl,fun ws' h=>by rw[HY.out] at h;injection h with h;subst h;exact VK.out⟩,fu.out⟩
     ·have bI:j.frame=none:=by rw[VN.out,η (fun h=>Sj h.1)]
      have dY:=Hd bI;have vk:(!((seq:Int)==(j.next:Int)))=true:=by rw[Γ.2 U];rfl
      clear bI VN;go_wp2_with fail;go_ret2;exact⟨⟨_,by rw[dY.out];rfl,fun ws h=>by rw[dY.out] at h;exact absurd h κ⟩,dF.out⟩
def sj(b:Nat):Option (bu×Nat)→Array Value
 | none=>#[au b,.int .u64 0,.int .u64 0,.int .i64 0,.int .i64 0,.int .i64 (-1),.int .u64 0,.int .i64 0]
 | some (s,k)=>#[au b,.int .u64 (s.e:Nat),.int .u64 (s.s:Nat),.int .i64 (s.log:Nat),.int .i64 (s.place:Nat),.int .i64 (k:Nat),.int .u64 0,.int .i64 0]
def mY(d:af):Nat→Option (bu×Nat)
 | 0=>none
 | k+1=>match aR (d.get k) d.l.length with
  | none=>mY d k
  | some s=>match mY d k with
   | none=>some (s,k)
   | some (r,i)=>if r.e<s.e then some (s,k) else some (r,i)
theorem NK(d:af):mY d 2=Eo (aR (d.get 0) d.l.length) (aR (d.get 1) d.l.length):=by
 have h1:mY d 1=(aR (d.get 0) d.l.length).map fun s=>(s,0):=by
  unfold mY mY;cases aR (d.get 0) d.l.length<;>rfl
 unfold mY;rw[h1];cases aR (d.get 0) d.l.length<;>cases aR (d.get 1) d.l.length<;>rfl
theorem Xc{d:af}{k:Nat}{s:bu}{i:Nat}(h:mY d k=some (s,i)):i<k∧aR (d.get i) d.l.length=some s:=by
 induction k with
 | zero=>cases h
 | succ k ih =>
  unfold mY at h;cases ht:aR (d.get k) d.l.length with
  | none=>rw[ht] at h;obtain⟨h1,h2⟩:=ih h;exact⟨U,h2⟩
  | some r =>
   rw[ht] at h;simp only[] at h;cases hp:mY d k with
   | none=>rw[hp] at h;simp only[M3,QR] at h;obtain⟨rfl,rfl⟩:=h;exact⟨U,ht⟩
   | some q =>
    obtain⟨q,i'⟩:=q;rw[hp] at h;simp only[] at h;split at h
    ·simp only[M3,QR] at h;obtain⟨rfl,rfl⟩:=h;exact⟨U,ht⟩
    ·obtain⟨h1,h2⟩:=ih (hp.trans h);exact⟨U,h2⟩
theorem af.nh{d:af}{i:Int}{s:Bytes}(h:(d.write i s).2=0):(d.write i s).1.dead=d.dead:=by
 unfold af.write at h ⊢;split
 ·rfl
 ·rename_i hc
  rw[η hc] at h;split
  ·rfl
  ·rename_i hs
   rw[η hs] at h;split
   ·rename_i hf
    rw[Φ hf] at h;simp at h
   ·rename_i hf
    show d.bh.dead=d.dead;unfold af.bh;rw[η hf]
theorem af.mT(ws:List WrL):∀{d:af},(d.writes ws).2=0→(d.writes ws).1.dead=d.dead:=by
 induction ws with
 | nil=>intro d h;rfl
 | cons w ws ih =>
  intro d h;rw[af.writes] at h ⊢;split
  ·rename_i hz
   rw[Φ hz] at h;rw[ih h,af.nh hz]
  ·rename_i hz
   rw[η hz] at h;exact absurd h hz
theorem UO{l:List Bytes}{seq:Nat}{ws:List WrL}(h:eD l=some (seq,ws)):ws.length+1≤l.length∧∀w∈ws,w.2.length=256:=by
 cases l with
 | nil=>exact absurd h (by simp[eD])
 | cons b rest =>
  unfold eD at h;simp only[] at h;cases hh:dV b with
  | none=>rw[hh] at h;exact absurd h κ
  | some r =>
   obtain⟨sq,at_⟩:=r;rw[hh] at h;simp only[] at h;split at h
   ·exact absurd h κ
   ·rename_i hn
    split at h
    ·simp only[M3,QR] at h
     obtain⟨rfl,rfl⟩:=h;have h1:¬rest.length<at_.length:=fun hc=>hn (.inl hc)
     refine⟨by rw[WP,Θ];omega,fun w hw=>?_⟩
     refine adl (fun hc=>hn (.inr ⟨w.2,?_,hc⟩))
     have e:at_.zip rest=at_.zip (rest.take at_.length):=by
      rw[List.zip_eq_zip_take_min,RE U,Mp (Ω _)]
     rw[e] at hw;exact(List.of_mem_zip hw).2
    ·exact absurd h κ
theorem EA{j:JL}{ws:List WrL}(h:j.frame=some ws):ws.length+1≤j.s.log-j.used∧ws.length≤48∧∀w∈ws,w.1<j.d.l.length∧w.2.length=256:=by
 unfold JL.frame at h;split at h
 ·rename_i seq ws' hu
  split at h
  ·rename_i hc
   injection h with h;subst h;obtain⟨h1,h2⟩:=UO hu;rw[NE,UT] at h1;exact⟨U,U,fun w hw=>⟨(hc.2 w hw).2,h2 w hw⟩⟩
  ·cases h
 ·cases h
theorem cG.turned{w w':World}{F:Nat→Prop}{p b:Nat}{j j':JL}(h:cG w F p b j)(hb:Blk w' p 216 (jd b j'))(hd:j'.d=j.d)(t:ae (fun k=>k=p) w w'):cG w' F p b j' :=
 ⟨hb,h.fp,by rw[hd];exact((h.dev.minus h.box).beside t (fun k hk e=>hk.2 e)).mono (fun k hk=>hk.1),fun k hk=>Ψ (h.lt k hk) t.size⟩
theorem eC.own{w w0:World}{F:Nat→Prop}{v:Value}{ws:List WrL}(h:w.ownsRow w0.heap.size 134 2 v ws.length (aN ws))(hF:∀k,F k→k<w0.heap.size)(hn:∀x∈ws,x.1≤9223372036854775807∧x.2.length≤9223372036854775807):eC w F v ws:=by
 refine⟨⟨Sl.cx h,fun hp=>?_⟩,hn⟩
 obtain⟨h1,h2⟩:=h;rcases h2 with h2|⟨g,cap,cur,rfl,hb,hg,rest⟩
 ·omega
 ·exact⟨g,0,⟨cap,rfl⟩,aJ hg,fun hc=>by have:=hF g hc;omega⟩
def mM(w:World)(p:Nat):Nat:=match w.cell? ⟨p,7,none⟩ with|some (.int _ u)=>u.toNat|_=>0
structure JOk (s:bu) (n P:Nat) (j:JL):Prop where
 sl:j.s=s
 ok:j.d.Ok
 live:j.d.dead=false
 len:j.d.l.length=n
 used:j.used≤s.log
 next:j.next<18446744073709551616
 k:j.k≤1
 p:j.d.p.length≤P+j.used
theorem JOk.num{s:bu}{n P:Nat}{j:JL}(h:JOk s n P j)(h1:50≤s.log)(h2:s.log+3≤n)(h3:s.place<s.log)(ho:s.Ok)(hP:P≤800000):fW j:=by
 have hm:=h.ok.max;have hu:=h.used;have hs:=h.sl;have hl:=h.len;have hp:=h.p;obtain⟨o1,o2,o3,o4⟩:=ho;refine⟨by rw[hs];omega,by rw[hs];omega,by rw[hs];omega,U,by rw[hs];exact o1,by rw[hs];exact o2,h.next,h.k,h.ok,fun _=>U⟩
theorem JOk.adv{s:bu}{n P:Nat}{j:JL}(h:JOk s n P j){ws:List WrL}(hf:j.frame=some ws)(hz:(j.d.writes ws).2=0):JOk s n P ({ j with d:=(j.d.writes ws).1 }.advance ws.length):=by
 obtain⟨f1,f2,f3⟩:=EA hf;have hs:=h.sl;have hu:=h.used;rw[hs] at f1;refine⟨hs,af.eN h.ok _,(af.mT _ hz).trans h.live,by rw[←h.len];exact af.gg _ _,?_,Sx _ Z,h.k,?_⟩
 ·show j.used+ws.length+1≤s.log;omega
 ·show(j.d.writes ws).1.p.length≤P+(j.used+ws.length+1)
  have:=af.jz ws j.d;have:=h.p;omega
theorem I4{j:JL}(hf:j.frame=none)(m:Nat):JL.cY (m+1) j=(j,0):=by rw[JL.cY,hf]
theorem I5{j:JL}{ws:List WrL}(hf:j.frame=some ws)(m:Nat):JL.cY (m+1) j=if (j.d.writes ws).2=0 then JL.cY m ({ j with d:=(j.d.writes ws).1 }.advance ws.length) else({ j with d:=(j.d.writes ws).1 },(j.d.writes ws).2):=by rw[JL.cY,hf]
theorem EB{d:af}(h:d.dead=true):aL d=(⟨d,⟨0,0,0,0⟩,0,0,0⟩,4):=by unfold aL;rw[h,Φ rfl]
theorem Xd{d:af}(h:d.dead=false)(hp:mY d 2=none):aL d=(⟨d,⟨0,0,0,0⟩,0,0,0⟩,10):=by unfold aL;rw[h,η Z,←NK,hp]
theorem Xe{d:af}(h:d.dead=false){s:bu}{k:Nat}(hp:mY d 2=some (s,k)):aL d=if (JL.cY (s.log+1) ⟨d,s,k,s.s,0⟩).2=0 then(JL.cY (s.log+1) ⟨d,s,k,s.s,0⟩).1.cz else JL.cY (s.log+1) ⟨d,s,k,s.s,0⟩:=by unfold aL;rw[h,η Z,←NK,hp]
theorem Xf(w:World)(F:Nat→Prop)(b:Nat)(d:af)(h:cF w F b d)(hd:d.Ok)(h2:2≤d.l.length)(lO:d.dead=true):
  Calls prog 148 #[au b] w fun e w'=>e=.returned (.tuple #[.pointer none,.int .i64 4])∧Q w w':=by
 have hr:=fun (W:World) (hq:Q w W)=>AQ W F b d 0 (h.keep hq) hd.max (fun hx=>by rw[lO] at hx;cases hx)
 have hb:=fun (W:World) (hq:Q w W)=>oL W F b d (h.keep hq)
 have he:d.read 0=([],4):=by unfold af.read;have:d.chk 0=4:=by { unfold af.chk;rw[lO,Φ rfl] };rw[this,η Z]
 rw[he] at hr;have Sn:min (2:Int) (d.l.length:Int)=2:=U;have HR:=Hd hr;have HB:=Hd hb;have HM:=Hd Sn;clear hr hb he h hd lO Sn;go_enter func148,ntmps148;go_wp2_with fail;refine(HB.out _ (Q.alloc _ _)).mono ?_;rintro e w1 ⟨rfl,rfl⟩;go_wp2_with fail;rw[HM.out];generalize gD:w.alloc _=w2;have eG:Q w w2:=by rw[←gD];exact Q.alloc _ _
 have bJ:=Hd eG;clear gD eG;go_loopw [20] (fun v wr=>v=.int .i64 0∧wr=w2) (fun _ _=>0)
 case atStart=>exact⟨rfl,rfl⟩
 case round =>
  obtain⟨rfl,rfl⟩:=hrel;go_wp2_with fail;refine(HR.out _ bJ.out).mono ?_;rintro e w3 ⟨rfl,q3⟩;have fu:=Hd (bJ.out.trans q3);clear q3;go_wp2_with fail;go_ret2;exact⟨rfl,fu.out⟩
def vF(seq:Nat)(ws:List WrL)(k:Nat):Bytes:=ek++(aB seq++(aB (seq / 4294967296)++(aB ws.length++iR ((ws.take k).map (·.1)))))
theorem Xg(seq:Nat)(ws:List WrL)(k:Nat)(h:k<ws.length):vF seq ws (k+1)=vF seq ws k++aB ws[k].1:=by
 unfold vF;rw[Mb h,N5];simp[iR,Mm]
theorem s8(seq:Nat)(ws:List WrL)(k:Nat)(h:k≤ws.length):(vF seq ws k).length=16+4*k:=by
 unfold vF;simp only[Δ,aH,uw,NE,L4,RE h];have:ek.length=4:=rfl;omega
theorem tP(seq:Nat)(ws:List WrL):vF seq ws ws.length++bg (232-4*ws.length)=jo seq ws:=by
 unfold vF jo;rw[M1];simp only[Mm]
theorem QD(n:Nat):Lib.repeatL [(0:UInt8)] n=bg n:=by
 induction n with
 | zero=>rfl
 | succ n ih=>rw[Lib.repeatL,ih];rfl
theorem AW(w:World)(seq:Nat)(hs:seq<18446744073709551616)(lv:Value)(ws:List WrL)(h:Sl w lv ws.length 2 (aN ws))(hw:sS ws):
  Calls prog 200 #[.int .u64 (seq:Nat),lv] w fun e w'=>∃v',e=.returned (.tuple #[v',.int .i64 0])∧w'.ownsRow w.heap.size 9 1 v' (ws.length+1) ((jG seq ws).map ah)∧Q w w':=by
 obtain⟨la,lc,rfl,lX⟩:=h.value;obtain⟨i0,hi,bY,bB,aW⟩:=info_parts DN;have aP:∀k (hk:k<ws.length),∃lb lo,la=some ⟨lb,lo,none⟩∧w.cell? ⟨lb,lo+k*2,none⟩=some (.int .i64 (ws[k].1:Nat))∧w.cell? ⟨lb,lo+k*2+1,none⟩=some (ah ws[k].2):=fun k hk=>by
  obtain⟨lb,lo,h1,h4⟩:=lX U;exact⟨lb,lo,h1,h4 _ _ (fQ ws k hk).1,by have:=h4 _ _ (fQ ws k hk).2;rwa [←Ps] at this⟩
 have bQ:∀k (hk:k<ws.length),ws[k].1<4096∧ws[k].2.length=256:=fun k hk=>hw.2.2 _ (LO hk)
 have qM:=hw.1;have kV:=hw.2.1;have aC:=Xg seq ws;have oq:=s8 seq ws;have GX:=tP seq ws;have lT:(67:UInt8)::68::88::84::((aB (seq%4294967296)++aB (seq / 4294967296))++aB ws.length)=vF seq ws 0:=by unfold vF;rw[uq];simp[iR,ek,Mm]
 have cf:=fun (v:Nat) (hv:v<4294967296) (W:World)=>vY v W hv
 have HC:=Hd aP;have HO:=Hd bQ;have aX:=Hd aC;have Zc:=Hd oq;have HEN:=Hd GX;have HK0:=Hd lT;have CF:=Hd cf;have HW:=Hd hw;have HHD:=Hd (show bK seq ws=jo seq ws++(aB (fU (jo seq ws++(ws.map (·.2)).flatten))++du) from rfl)
 have eH:¬(ws.length:Int)=0:=U;have hb1:((ws.length:Int)==0)=false:=Γ.2 eH;have bN:¬(48:Int)<(ws.length:Int):=U;have l1:(aB (seq%4294967296)).length=4:=rfl;have l2:(aB (seq / 4294967296)).length=4:=rfl;have l3:(aB ws.length).length=4:=rfl;clear aP bQ aC oq GX lT cf hw h lX;go_enter func200,ntmps200;go_wp2_with fail;rw[show((seq:Int)%4294967296)=((seq%4294967296:Nat):Int) by omega]
 refine(CF.out _ U _).mono ?_;rintro e w1 ⟨rfl,q1⟩;have dF:=Hd q1;clear q1;go_wp2_with fail;rw[show((seq:Int) / 4294967296)=((seq / 4294967296:Nat):Int) by omega]
 refine(CF.out _ U _).mono ?_;rintro e w2 ⟨rfl,q2⟩;have bJ:=Hd (dF.out.trans q2);clear q2;go_wp2_with fail;refine(CF.out _ U _).mono ?_;rintro e w3 ⟨rfl,q3⟩;have fu:=Hd (bJ.out.trans q3);clear q3;go_wp2_with fail;simp only[bytes_append,Of,N0];rw[HK0.out];have AJ:w3.ownsRow w.heap.size 9 1 (.slice none 0 0) 0 ((([]:List WrL)).map fun x=>ah x.2):=World.ownsRow_nil _ _ _ _
 go_loopw [6,7,34] (fun dv hv v wr=>∃k:Nat,v=.int .i64 (k:Nat)∧k≤ws.length∧hv=ah (vF seq ws k)∧Hid (wr.ownsRow w.heap.size 9 1 dv k ((ws.take k).map fun x=>ah x.2))∧Hid (Q w wr)) (fun _ _ v _=>ws.length-(intOf v).toNat)
 case atStart=>exact⟨0,rfl,L0 _,rfl,AJ,fu.out⟩
 case round =>
  obtain⟨k,rfl,hk,rfl,HR,lH⟩:=hrel;by_cases ay:k<ws.length
  ·have bq:(k:Int)<(ws.length:Int):=U
   obtain⟨lb,lo,rfl,x1,x2⟩:=HC.out k ay;have y1:=aI lH.out x1;have y2:=aI lH.out x2;obtain⟨eu,gV⟩:=HO.out k ay;have kU:=aX.out k ay;have oq:=Zc.out k hk;have dP:=HR.out;have jJ:=Q.alloc wr (.cells #[.int .i64 (ws[k].1:Nat),ah ws[k].2] 134);have abD:=ownsRow_below dP jJ;have mR:((ws.take (k+1)).map fun x=>ah x.2)=((ws.take k).map fun x=>ah x.2)++[ah ws[k].2]:=by rw[Mb ay,N5];rfl
   have Sd:=Hd kU;have wL:=Hd mR;have lu:=Hd abD;have zH:=Hd (lH.out.trans jJ);clear kU mR dP abD jJ x1 x2;generalize ws[k].1=bk at *;generalize ws[k].2=dk at *;generalize vF seq ws k=tk at *;have gI:¬(bk:Int)<0:=U;have sN:¬(4096:Int)≤(bk:Int):=U;have gY:(!((dk.length:Int)==256))=false:=by rw[MY.2 U];rfl
   have l4:(aB bk).length=4:=rfl;go_wp2_with fail;have kF:=((Blk.new wr 134 #[.int .i64 (bk:Nat),ah dk]).c2).2.1;refine(CF.out _ U _).mono ?_;rintro e w5 ⟨rfl,q5⟩;have m1:=aI q5 kF;have yh:=ownsRow_below lu.out q5;have kJ:=zH.out.trans q5;have cO:∀u∈#[ah dk].toList,u.oneCell'=true:=by intro u hu;simp at hu;subst hu;rfl
   have dI:(k+1)*16≤140737488355328:=U;have Af:=Hd yh;have jK:=Hd kJ;have vg:=Hd cO;have xI:=Hd dI;clear yh kJ cO dI q5 kF y1 y2;go_wp2_with (at_builtin;refine bG w5 ρ _ _ 101 ρ w.heap.size 9 _ i0 (ah []) 1 16 underlying101 hi bY bB aW rfl Z Z _ _ _ ρ Af.out #[ah dk] ρ rfl vg.out xI.out jK.out.size ?_)
   intro g cap w6 hr hg ho nR nX;have yj:Q w w6:=bD jK.out Af.out hg (Ω _) jK.out.size;have OV:=Hd hr;have lG:=Hd yj;clear hr hg ho yj;go_wp2_with fail;go_roundw;case rel=>exact⟨k+1,by go_num,U,by rw[Sd.out];simp only[bytes_append],by rw[wL.out];have h:=OV.out;rw[←List.map_take] at h;exact Hd h,lG⟩
   case measure=>simp[intOf];omega
  ·have bq:¬(k:Int)<(ws.length:Int):=U
   obtain rfl:k=ws.length:=U;have oq:=Zc.out ws.length (Ω _);have GX:=HEN.out;have dP:=HR.out;rw[M1] at dP;have nU:=fun (W:World)=>Tryz.strings_Repeat_main ⟨#[0]⟩ (232-4*ws.length) W U U (by show 1*(232-4*ws.length)≤_;omega) Z
   have hci:((232-4*ws.length:Nat):Int)=248-(16+4*(ws.length:Int)):=U;have OX:=QD (232-4*ws.length);have xX:=fC (232-4*ws.length);have dZ:=qd seq ws kV;have xZ:=Hd nU;have HRZ:=Hd OX;have ail:=Hd GX;have lu:=Hd dP;clear nU OX GX dP;generalize vF seq ws ws.length=tk at *;have amy:(tk.length:Int)=16+4*(ws.length:Int):=U;go_wp2_with fail;rw[←hci];refine(xZ.out _).mono ?_;rintro e w4 ⟨rfl,q4⟩;have jK:=Hd (lH.out.trans q4);have afI:=Hd (ownsRow_below lu.out q4);clear q4;rw[HRZ.out];go_wp2_with fail;simp only[bytes_append];rw[ail.out];have bX:=Sl.cx afI.out;have iU:(ws.map (·.2)).map ah=ws.map fun x=>ah x.2:=by rw[Rr];rfl
   have aat:Strs w4 u6 (ws.map (·.2)):=by
    unfold Strs;rw[iU,NE];exact bX
   have hsum:=oe w4 (jo seq ws) u6 (ws.map (·.2)) aat (by rw[NE];omega) U (fun q hq=>by
    obtain⟨x,hx,rfl⟩:=MD.1 hq;have:=(HW.out.2.2 x hx).2;omega)
   have VF:=HHD.out;have hl5:(aB (fU (jo seq ws++(ws.map (·.2)).flatten))).length=4:=rfl
   have fV:(jG seq ws).map ah=[ah (bK seq ws)]++ws.map fun x=>ah x.2:=by unfold jG;rw[No,iU];rfl
   have ain:=Hd hsum;have HWM:=Hd VF;have aio:=Hd bX;have kY:=Hd fV;clear hsum VF aat bX fV iU;generalize (ws.map (·.2)).flatten=dat at *
   generalize jo seq ws=bd at *;generalize fU (bd++dat)=cr at *;refine ain.out.mono ?_;rintro e w5 ⟨rfl,q5⟩;have lG:=Hd (jK.out.trans q5);have aip:=Hd (aio.out.stays q5);clear q5;have hh:(bd++aB cr)++[67,68,88,69]=bK seq ws:=by rw[HWM.out,Mm];rfl
   have HH:=Hd hh;clear hh;have jJ:=Q.alloc w5 (.cells #[ah (bK seq ws)] 9);have CB:=Qy w5 w.heap.size 9 (ah (bK seq ws)) lG.out.size;have h1:∀u∈ws.map fun x=>ah x.2,u.oneCell'=true:=fun u hu=>by obtain⟨d,_,rfl⟩:=MD.1 hu;rfl
   have h2:1+ws.length≤maxLen:=by unfold maxLen;omega
   have h3:(1+ws.length)*16≤140737488355328:=U;have HOW:=Hd CB;have aau:=Hd (aip.out.stays jJ);have H1:=Hd h1;have H2:=Hd h2;have H3:=Hd h3;have lJ:=Hd (lG.out.trans jJ);clear CB h1 h2 h3 jJ;generalize bK seq ws=gV at *;go_wp2_with (at_builtin;simp only[bytes_append];rw[HH.out];refine fM (w5.alloc (.cells #[ah gV] 9)) ρ _ _ 101 ρ w.heap.size 9 i0 (ah []) 1 16 underlying101 hi bY bB aW rfl Z _ 1 [ah gV] ρ HOW.out _ ws.length (ws.map fun x=>ah x.2) ρ aau.out H1.out H2.out H3.out lJ.out.size ?_)
   intro v' w' hr hg ho;have OQ:Q w w':=bD lJ.out HOW.out hg (Ω _) lJ.out.size;have Cw:w'.ownsRow w.heap.size 9 1 v' (ws.length+1) ((jG seq ws).map ah):=by rw[kY.out,abX];exact hr
   have ow:=Hd Cw;have VH:=Hd OQ;clear Cw OQ hr hg ho;go_wp2_with fail;go_ret2;exact⟨_,rfl,ow.out,VH.out⟩
theorem NM:(prog.info? 9).map (fun i=>(i.zero,i.size,i.bytes))=some (some (ah []),1,16):=by kernel_rfl
end
end Go.Proofs.YtbkahhebmpehnaaGreatDoor
