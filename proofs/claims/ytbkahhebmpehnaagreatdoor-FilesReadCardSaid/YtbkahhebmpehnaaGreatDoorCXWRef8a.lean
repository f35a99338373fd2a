/- Joined: WRef8a to Open9 -/
import Derived.Test.YtbkahhebmpehnaaGreatDoorCXWRef7b
import Derived.Test.YtbkahhebmpehnaaGreatDoorCXWFtC
import Derived.Test.YtbkahhebmpehnaaGreatDoorCXWRef1a
import Derived.Deep.Slices
import Derived.ShutString
import Derived.LaidMore
import Derived.Lay
import Derived.Lib.LaidU8T
import Derived.PinnedBridge
set_option linter.all false
set_option maxRecDepth 100000
set_option maxHeartbeats 8000000
namespace Go.Proofs.YtbkahhebmpehnaaGreatDoor
open Go.Proofs.Tryz
section
open Go.RowKit
theorem qe(n:Nat)(w:World)(hn:n≤1000000):
  Calls prog 187 #[.int .i64 (n:Nat)] w fun e w'=>e=.returned (ah (dN n))∧Q w w':=by
 have hv:=fun (W:World)=>Rj n W U
 have e1:IntKind.u64.wrap (n:Int)=(n:Int):=IntWalk.u64_in _ U;have HV:=Hd hv;clear hv;go_enter func187,ntmps187;go_wp2_with fail;refine(HV.out _).mono ?_;rintro e w1 ⟨rfl,q1⟩;go_wp2_with fail;go_ret;exact⟨rfl,q1⟩
theorem Dq(a b:Int)(w:World):Calls prog 61 #[.slice none 0 0,.int .i64 a,.int .i64 b] w fun e w'=>e=.returned (.bool true)∧w=w':=by
 go_enter func61,ntmps61;go_wp2_with fail;go_loop [8] (fun v=>v=.int .i64 0) (fun _=>0)
 case atStart=>rfl
 case round =>
  subst hrel;go_wp2_with fail;go_ret;exact⟨rfl,rfl⟩
def eW:Bytes:=[67,68,88,73,0]
theorem GA:dN 0=[0]:=Z
theorem zr:je []=eW:=by unfold je;rw[Nm,GA];rfl
theorem Eg:Value.string (({ data:=#[67,68,88,73] }:ByteArray)++{ data:=#[0] })=ah eW:=by kernel_rfl
theorem Jl(w:World):Calls prog 114 #[.slice none 0 0] w fun e w'=>e=.returned (ah eW)∧Q w w':=by
 have hn:=fun (W:World)=>qe 0 W Z
 rw[GA] at hn;have HN:=Hd hn;have e0:((0:Nat):Int)=0:=rfl;rw[e0] at HN;clear hn;go_enter func114,ntmps114;go_wp2_with fail;refine(HN.out _).mono ?_;rintro e w1 ⟨rfl,q1⟩;go_wp2_with fail;go_loop [3,4] (fun x v=>x=.string (({ data:=#[67,68,88,73] }:ByteArray)++{ data:=#[0] })∧v=.int .i64 0) (fun _ _=>0)
 case atStart=>exact⟨rfl,rfl⟩
 case round =>
  obtain⟨rfl,rfl⟩:=hrel;go_wp2_with fail;go_ret;exact⟨Pu Ending.returned Eg,q1⟩
def pk0:Bytes:=eW++aB (fU eW)
theorem oy:pk0.length=9:=by unfold pk0;rw[Δ,aH];rfl
theorem Od:bR []=pk0++bg 3063:=by
 have h:=oy;unfold bR;rw[zr,show ir eW=pk0 from rfl,h]
theorem XR(w:World):Calls prog 109 #[.slice none 0 0] w fun e w'=>e=.returned (.tuple #[ah (bR []),.int .i64 0])∧Q w w':=by
 have zM:=fun (W:World)=>Dq 0 4096 W
 have iT:=fun (W:World)=>Jl W
 have nU:=fun (W:World)=>EJ eW W Z
 have xK:=fun (W:World)=>ru (fU eW) W (yA _)
 obtain⟨i,hi,bY,bB,aW⟩:=info_parts ze;have km:=fun (W:World)=>run_make (P:=prog) W 92 5 _ _ underlying92 hi bY .i64 .i64 3063 3063 U (XX _) (by rw[aW];omega) U
 have hb:=fun (W:World)=>(cA.zeros W (3063:Int).toNat 5).back (P:=prog) 92 9 5 (3063:Int).toNat underlying92 underlying5 underlying9
 simp only[Nx] at hb;rw[show List.replicate (3063:Int).toNat (0:UInt8)=bg 3063 from rfl] at hb
 simp only[bB,abq,show(Value.int IntKind.u8 0).cells=#[.int .u8 0] from rfl] at km
 have kG:(aB (fU eW)).length=4:=aH _;have rU:eW.length=5:=rfl;have qp:(({ data:=eW.toArray }:ByteArray)++{ data:=(aB (fU eW)).toArray })=⟨pk0.toArray⟩:=bytes_append _ _;have bW:=oy;have iQ:=Od;have Mt:=Hd zM;have Ic:=Hd iT;have xZ:=Hd nU;have Si:=Hd xK;have FE:=Hd qp;have vR:=Hd iQ;clear zM iT nU xK qp iQ;generalize aB (fU eW)=fx at *;generalize fU eW=cr at *;generalize eW=d0 at *;generalize pk0=pk at *;generalize bR []=res at *;generalize hm:(3063:Int).toNat=m at *;clear hm;go_enter func109,ntmps109;go_wp2_with fail;refine(Mt.out _).mono ?_;rintro e w1 ⟨rfl,rfl⟩;go_wp2_with fail;refine(Ic.out _).mono ?_;rintro e w1 ⟨rfl,q1⟩;have dF:=Hd q1;clear q1;go_wp2_with fail;refine(xZ.out _).mono ?_;rintro e w2 ⟨rfl,rfl⟩;go_wp2_with fail;refine(Si.out _).mono ?_;rintro e w2 ⟨rfl,q2⟩;have bJ:=Hd (dF.out.trans q2);clear q2 dF;go_upto_region 6 with fail;rw[FE.out];have hpi:¬(3072:Int)<(pk.length:Int):=U;have zA:IntKind.i64.wrap (3072-(pk.length:Int))=3063:=by rw[bW];decide
 have amY:(3072-(pk.length:Int))=3063:=by rw[bW];decide
 have km1:=km w2;have hb1:=hb w2;have hq:=Q.alloc w2 (.cells (madeCells #[.int .u8 0] m) 5);generalize w2.alloc (.cells (madeCells #[.int .u8 0] m) 5)=w3 at *;have fu:=Hd (bJ.out.trans hq);clear km hb hq;go_wp2_with fail;go_returns;exact⟨by rw[vR.out];exact Pu (fun x=>Ending.returned (.tuple #[.string x,.int .i64 0])) (bytes_append _ _),fu.out⟩
theorem XT(w:World)(rb:Nat)(r:Bytes)(hr:r.length≤100000)(h:Blk w rb 181 #[ah (0::r),.bool true]):
  Calls prog 112 #[au rb,.int .i64 64] w fun e w'=>e=.returned (.int .i64 0)∧∃w1,Q w w1∧w'=w1.setCell ⟨rb,0,none⟩ (ah r):=by
 have hv:fX (0::r) 0 r:=⟨Z,by rw[GA];rfl⟩
 have htv:Calls prog 185 #[ah (0::r)] w fun e w'=>e=.returned (.tuple #[.int .u64 0,ah r,.bool true])∧Q w w':=(XQ (0::r) w (by simp;omega)).mono fun e w' hh=>by
  refine⟨?_,hh.2⟩;rcases hh.1 with ⟨v,r',h1,h2⟩|⟨h1,_⟩
  ·obtain⟨rfl,rfl⟩:=hv.one h1
   exact h2
  ·exact absurd hv (h1 0 r)
 obtain⟨c0,c1,_⟩:=h.c2;have HTV:=Hd htv;have HB:=Hd h;clear htv hv h;go_enter func112,ntmps112;go_wp2_with fail;refine HTV.out.mono ?_;rintro e w1 ⟨rfl,q1⟩;have hb1:=HB.out.stays q1;obtain⟨d0,d1,f0,f1⟩:=hb1.c2;have Q1:=Hd q1;clear q1 hb1 c0 c1;go_wp2_with fail;go_ret;exact⟨rfl,w1,Q1.out,rfl⟩
theorem Rk(w:World):Calls prog 59 #[ah (bR [])] w fun e w'=>e=.returned (.tuple #[.slice none 0 0,.int .i64 0])∧Q w w':=by
 obtain⟨fx,xK⟩:∃fx,fx=aB (fU eW):=⟨_,rfl⟩;have kG:fx.length=4:=by rw[xK];exact aH _
 obtain⟨r1,Fv⟩:∃r1,r1=fx++bg 3063:=⟨_,rfl⟩;have hs:bR []=[67,68,88,73]++0::r1:=by
  rw[Od,Fv,xK];unfold pk0 eW;simp only[Mm,Of,N0]
 have mG:r1.length=3067:=by rw[Fv,Δ,kG,fC]
 have hz:∀k (hk:k<r1.length),4≤k→((({ data:=r1.toArray }:ByteArray)[k]'hk).toNat:Int)=0:=fun k hk h4=>by
  rw[my];have:bA r1 k=0:=by
   unfold bA;rw[Fv,LR,OF U];unfold bg;rw[Ss];split<;>rfl
  rw[this];rfl
 have hx4:({ data:=(bR []).toArray }:ByteArray).extract 0 4={ data:=#[67,68,88,73] }:=by rw[eY,hs];rfl
 have hlen:(bR []).length=3072:=by rw[hs];simp[mG]
 have hx5:({ data:=(bR []).toArray }:ByteArray).extract 4 3072=⟨(0::r1).toArray⟩:=by
  rw[eY,hs];have:((0::r1).take (3072-4))=0::r1:=Mp (by simp[mG])
  rw[show([67,68,88,73]++0::r1:Bytes).drop 4=0::r1 from rfl,this]
 have Z7:({ data:=(bR []).toArray }:ByteArray).extract 5 9=⟨fx.toArray⟩:=by
  rw[eY,hs];rw[show([67,68,88,73]++0::r1:Bytes).drop 5=r1 from rfl,Fv,P0 U,Mp U]
 have zM:=fun (W:World)=>Dq 0 4096 W
 have iT:=fun (W:World)=>Jl W
 have nU:=fun (W:World)=>EJ eW W Z
 have FQ:=fun (W:World)=>ru (fU eW) W (yA _)
 rw[←xK] at FQ;have rU:eW.length=5:=rfl;have qO:=fun (W:World) (rb:Nat) (h:Blk W rb 181 #[ah (0::r1),.bool true])=>XT W rb r1 U h
 have eu:=Blk.new w 181 #[ah (0::r1),.bool true];have jJ:=Q.alloc w (.cells #[ah (0::r1),.bool true] 181);have Mt:=Hd zM;have Ic:=Hd iT;have xZ:=Hd nU;have Z8:=Hd FQ;have JI:=Hd qO;have HZ:=Hd hz;have rR:=Hd eu;have zH:=Hd jJ;have HX9:=Hd Z7;clear zM iT nU FQ qO hz xK Fv hs eu jJ Z7;generalize fU eW=cr at *;generalize eW=d0 at *;generalize bR []=s at *;have sN:((({ data:=s.toArray }:ByteArray).extract 0 4).toList==({ data:=#[67,68,88,73] }:ByteArray).toList)=true:=by rw[hx4];exact V0 _
 go_enter func59,ntmps59;go_upto_region 4 with fail;rw[show Value.string { data:=(0::r1).toArray }=ah (0::r1) from rfl]
 have eu:=rR.out;have mF:=zH;generalize w.alloc (.cells #[ah (0::r1),.bool true] 181)=wa at *;obtain⟨rb,hrb⟩:∃rb,rb=w.heap.size:=⟨_,rfl⟩;rw[←hrb] at eu ⊢;have qO:=JI.out wa rb eu;have HN:=Hd qO;have Ju:=Hd eu;have HRB:=Hd hrb;clear qO eu JI rR zH hrb;go_wp2_with fail;refine HN.out.mono ?_;rintro e w1 ⟨rfl,w2,q2,rfl⟩;have bN:=(Ju.out.stays q2).set 0 (ah r1);have eG:Q w (w2.setCell ⟨rb,0,none⟩ (ah r1)):=Q.setCell (mF.out.trans q2) (by rw[HRB.out];exact Ω _) _
 generalize w2.setCell ⟨rb,0,none⟩ (ah r1)=w3 at *;obtain⟨d0',d1',_⟩:=Blk.c2 (show Blk w3 rb 181 #[ah r1,.bool true] from bN)
 have fu:=Hd eG;have qI:=Hd (show Blk w3 rb 181 #[ah r1,.bool true] from bN)
 clear bN eG q2 HN Ju mF;go_wp2_with fail;go_loopw [6,7] (fun l i wr=>l=.slice none 0 0∧i=.int .i64 0∧wr=w3) (fun _ _ _=>0)
 case atStart=>exact⟨rfl,rfl,rfl⟩
 case round =>
  obtain⟨rfl,rfl,rfl⟩:=hrel;go_wp2_with fail;refine(Mt.out _).mono ?_;rintro e w4 ⟨rfl,rfl⟩;go_wp2_with fail;go_loop [10] (fun i=>∃k:Nat,i=.int .i64 (k:Nat)∧4≤k∧k≤3067) (fun i=>3067-(intOf i).toNat)
  case atStart=>exact⟨4,rfl,U,U⟩
  case round =>
   obtain⟨k,rfl,rG,hk⟩:=hrel;by_cases ay:k<3067
   ·have bq:(k:Int)<(r1.length:Int):=U
    have lT:(0:Int)≤(k:Int):=U;have oq:k<r1.length:=U;have hz:=HZ.out k oq rG;go_wp2_with fail;go_round;case rel=>exact⟨k+1,by go_num,U,U⟩
    case measure=>simp[intOf];omega
   ·obtain rfl:k=3067:=U
    have bq:¬((3067:Nat):Int)<(r1.length:Int):=U;go_wp2_with fail;refine(Ic.out _).mono ?_;rintro e w5 ⟨rfl,q5⟩;have jK:=Hd (fu.out.trans q5);have e0:=(Blk.c2 (qI.out.stays q5)).1;have KK:=Hd (Q.refl w5);clear q5 d0' d1';have Z7:=HX9.out;have hb9:((({ data:=s.toArray }:ByteArray).extract 5 9).toList==({ data:=fx.toArray }:ByteArray).toList)=true:=by rw[Z7];exact V0 _
    clear Z7;have e1:IntKind.i64.wrap ((d0.length:Int)+4)=9:=by rw[rU];decide
    have e2:(0:Int)≤(d0.length:Int):=U;have e3:(d0.length:Int)≤9:=U;have e4:(9:Int)≤(s.length:Int):=U;have e5:({ data:=s.toArray }:ByteArray).extract d0.length 9=⟨fx.toArray⟩:=by rw[rU];exact HX9.out
    have HD:=Hd rU;clear rU;go_wp2_with fail
    (go_region_held3 (fun w'=>w'.cell? ⟨rb,0,none⟩=some (ah r1))
     (first|exact e0|exact aI δ e0)
     (first
      | (go_at_call 116;with_reducible refine(xZ.out _).mono ?_;rintro e w6 ⟨rfl,rfl⟩)
      | (go_at_call 115;with_reducible refine(Z8.out _).mono ?_;rintro e w6 ⟨rfl,q6⟩;have s':Q w5 w6:=Q.trans ω q6;clear KK;have KK:=Hd s';clear s' q6)))
    all_goals
     go_wp2_with fail;go_returns;exact⟨rfl,jK.out.trans KK.out⟩
end
section
open Go.RowKit
def RF(w0 w:World)(fb sb b:Nat)(σ:StL):Prop:=∃F:Nat→Prop,(∀k,F k→w0.heap.size≤k)∧¬F fb∧Blk w fb 111 #[au sb]∧cT w F sb b σ∧Q w0 w
section
variable {w0 w:World} {fb sb b:Nat} {σ σ':StL}
theorem RF.call(h:RF w0 w fb sb b σ){P:Ending→Prop}{f:FuncId}{av:Array Value}(hc:∀F:Nat→Prop,cT w F sb b σ→Calls prog f av w fun e w'=>P e∧cT w' (grow F w w') sb b σ'∧ae F w w'):Calls prog f av w fun e w'=>P e∧RF w0 w' fb sb b σ':=by
 obtain⟨F,h1,h2,h3,h4,h5⟩:=h;refine(hc F h4).mono fun e w' hr=>⟨hr.1,grow F w w',yH h1 h5.size,fun hc=>hc.elim h2 (fun hc=>?_),hr.2.2.blk h3 h2,hr.2.1,hr.2.2.low h1 h5⟩
 have:=h3.lt;omega
theorem RF.keep{w':World}(h:RF w0 w fb sb b σ)(q:Q w w'):RF w0 w' fb sb b σ:=by
 obtain⟨F,h1,h2,h3,h4,h5⟩:=h;exact⟨F,h1,h2,h3.stays q,h4.keep q,h5.trans q⟩
theorem RF.cell(h:RF w0 w fb sb b σ):w.cell? ⟨fb,0,none⟩=some (au sb):=by
 obtain⟨F,h1,h2,h3,h4,h5⟩:=h;exact h3.cell 0 _ rfl
theorem RF.q(h:RF w0 w fb sb b σ):Q w0 w:=by
 obtain⟨F,h1,h2,h3,h4,h5⟩:=h;exact h5
theorem RF.first(h:RF w0 w fb sb b σ)(hn:σ.n≤4096):Calls prog 58 #[au sb] w fun e w'=>e=.returned (.int .i64 (ak σ.n:Nat))∧w=w':=by
 obtain⟨F,h1,h2,h3,h4,h5⟩:=h;obtain⟨FJ,p,tv,h6,_⟩:=h4.parts;exact yR h6 hn
end
theorem Ov{KI:Nat}{σ:StL}{fr:List (List WrL)}{C:Nat→Bytes}(h:eE KI σ fr C)(p t:Bytes)(ht:t.length=3072)(k:Nat)(hk:k≤12):cg KI (σ.writes (iZ σ.n p t k)).1 fr C:=by
 have hlen:(iZ σ.n p t k).length≤k:=by
  unfold iZ;rw[NE];exact LS (WN _ _) (by rw[UT];exact Ω _)
 have vM:=h.few;exact(tC (iZ σ.n p t k) h.st h.op U (fun x hx=>by
  obtain⟨i,hi,rfl⟩:=MD.1 hx;have hi:=P4.1 (PF.1 hi).1;have hr:=h.room;exact⟨SP _ _,by simp only;omega,h.on i U,ni ht U⟩)).2.1
theorem Vq(w0 w:World)(fb sb b:Nat)(σ:StL)(h:RF w0 w fb sb b σ){KI:Nat}{fr:List (List WrL)}{C:Nat→Bytes}(hs:eE KI σ fr C)(gM:KI<18446744073709551616):
  Calls prog 56 #[au fb,ah [],.slice none 0 0] w fun e w'=>e=.returned (.int .i64 0)∧RF w0 w' fb sb b (σ.writes (vL σ.n [] (bR []))).1:=by
 have fV:=fun (W:World)=>XR W
 have hl:=kg qZ;have nP:=fun k hk=>NU hs gM [] (bR []) hl k hk
 have zT:=fun k (hk:k≤12)=>(Ov hs [] (bR []) hl k hk).know gM
 have Fy:=fun (k:Nat) (hk:k<12)=>ni hl hk
 have hex:∀k:Nat,({ data:=(bR []).toArray }:ByteArray).extract (256*k) (256*k+256)=⟨(aG (bR []) k).toArray⟩:=fun k=>by rw[eY,show 256*k+256-256*k=256 by omega,show 256*k=k*256 by omega];rfl
 have lK:ak σ.n≤4096:=by have:=hs.room;have:=hs.st.max;omega
 have iH:=hs.st.max;have H0:=Hd h;have kY:=Hd fV;have TH:=Hd nP;have ajv:=Hd zT;have Tv:=Hd Fy;have BF:=Hd hex;clear fV nP zT Fy hex hs h;generalize bR []=t at *;go_enter func56,ntmps56;go_wp2_with fail;refine(kY.out _).mono ?_;rintro e w1 ⟨rfl,q1⟩;have H1:=Hd (H0.out.keep q1);clear q1 H0;go_wp2_with fail;go_loopw [9] (fun i wr=>∃k:Nat,i=.int .i64 (k:Nat)∧k≤12∧Hid (RF w0 wr fb sb b (σ.writes (iZ σ.n [] t k)).1)) (fun i _=>12-(intOf i).toNat)
 case atStart=>exact⟨0,rfl,L0 _,H1⟩
 case round =>
  obtain⟨k,rfl,hk,HK⟩:=hrel;by_cases ay:k<12
  ·have bq:(k:Int)<12:=U
   have lT:(0:Int)≤(k:Int):=U;have e4:IntKind.i64.wrap ((ak σ.n:Int)+(k:Int))=(ak σ.n:Int)+(k:Int):=by rw[IntWalk.i64_in _ U]
   obtain⟨r1,r2,r3,r4,r5⟩:=TH.out k ay;obtain⟨r6,r7⟩:=r5 (by first|exact .inl rfl|exact .inl trivial)
   have c0:=HK.out.cell;have x1:=BF.out k;have e5:(256*(k:Int))≤(256*(k:Int)+256):=U;have e6:(0:Int)≤(256*(k:Int)):=U;have e7:(256*(k:Int)+256)≤(t.length:Int):=U;have e8:IntKind.i64.wrap (256*(k:Int))=256*(k:Int):=IntWalk.i64_in _ U;have e9:IntKind.i64.wrap (256*(k:Int)+256)=256*(k:Int)+256:=IntWalk.i64_in _ U;have e10:(256*(k:Int)).toNat=256*k:=U;have e11:(256*(k:Int)+256).toNat=256*k+256:=U;have e12:(0:Int)≤(256*(k:Int)+256):=U;have eP:∀W:World,RF w0 W fb sb b (σ.writes (iZ σ.n [] t k)).1→Calls prog 58 #[au sb] W fun e w'=>e=.returned (.int .i64 (ak σ.n:Nat))∧W=w':=fun W q=>by
    have:=q.first (by rw[r3];exact iH)
    rwa [r3] at this
   have jB:∀W:World,RF w0 W fb sb b (σ.writes (iZ σ.n [] t k)).1→Calls prog 110 #[au sb,.int .i64 ((ak σ.n:Int)+(k:Int)),.string ⟨(aG t k).toArray⟩] W fun e w'=>e=.returned (.int .i64 0)∧RF w0 w' fb sb b (σ.writes (iZ σ.n [] t (k+1))).1:=fun W q=>by
    rw[r7,←abl];exact(q.call fun F hF=>Vm hF (ajv.out k U) _ (aG t k) (by rw[Tv.out k ay];omega)).mono fun e w' hx=>⟨by rw[←r6];exact hx.1,hx.2⟩
   have iW:=Hd eP;have vC:=Hd jB;clear r4 r5 r7 r6 r1 r2 r3 eP jB;go_wp2_with fail;have KK:=Hd (Q.refl wr)
   (go_region_held3 (fun w'=>w'.cell? ⟨fb,0,none⟩=some (au sb))
    (first|exact g0|exact c0|exact aj δ c0)
    (first
     | (go_at_call 58;with_reducible refine(iW.out _ (HK.out.keep ω)).mono ?_;rintro e w3 ⟨rfl,rfl⟩)
     | (go_at_call 110;with_reducible refine(vC.out _ (HK.out.keep ω)).mono ?_;rintro e w5 ⟨rfl,h5⟩;have g0:=h5.cell;have H5:=Hd h5;clear h5)))
   all_goals
    go_wp2_with fail;exact⟨⟨k+1,by go_num,U,H5⟩,by simp[intOf];omega⟩
  ·obtain rfl:k=12:=U
   have bq:¬((12:Nat):Int)<12:=U;go_wp2_with fail;go_ret;exact⟨rfl,HK.out⟩
end
section
open Go.RowKit
theorem Vr(w0 w:World)(fb sb b:Nat)(σ:StL)(h:RF w0 w fb sb b σ)(hk:fY σ)(hn:σ.n≤4096)(hf:ak σ.n≤4096)(t:Bytes)(ht:t.length=3072)(dz:∀k:Nat,k<12→σ.read ((ak σ.n+k:Nat):Int)=(aG t k,0)):
  Calls prog 60 #[au fb] w fun e w'=>e=.returned (ah t)∧RF w0 w' fb sb b σ:=by
 have H0:=Hd h;have iO:=Hd dz;have HKN:=Hd hk;have eP:∀W:World,RF w0 W fb sb b σ→Calls prog 58 #[au sb] W fun e w'=>e=.returned (.int .i64 (ak σ.n:Nat))∧W=w':=fun W q=>q.first hn
 have iW:=Hd eP;clear h dz hk eP;go_enter func60,ntmps60;go_wp2_with fail;go_loopw [3,4] (fun s i wr=>∃k:Nat,i=.int .i64 (k:Nat)∧k≤12∧s=ah (t.take (256*k))∧Hid (RF w0 wr fb sb b σ)) (fun _ i _=>12-(intOf i).toNat)
 case atStart=>exact⟨0,rfl,L0 _,rfl,H0⟩
 case round =>
  obtain⟨k,rfl,hk,rfl,HK⟩:=hrel;by_cases ay:k<12
  ·have bq:(k:Int)<12:=U
   have e4:IntKind.i64.wrap ((ak σ.n:Int)+(k:Int))=(ak σ.n:Int)+(k:Int):=by rw[IntWalk.i64_in _ U]
   have c0:=HK.out.cell;have ug:∀W:World,RF w0 W fb sb b σ→Calls prog 117 #[au sb,.int .i64 ((ak σ.n:Int)+(k:Int))] W fun e w'=>e=.returned (.tuple #[ah (aG t k),.int .i64 0])∧RF w0 w' fb sb b σ:=fun W q=>by
    have hx:=iO.out k ay;rw[←abl];exact(q.call fun F hF=>Yf hF HKN.out _).mono fun e w' hh=>⟨by rw[hh.1,hx],hh.2⟩
   have aC:=NV t k;have mG:(t.take (256*k)).length+(aG t k).length≤9223372036854775807:=by
    have:=ni ht ay;rw[L4];omega
   have aX:=Hd aC;have Ie:=Hd ug;clear ug aC;generalize aG t k=pt at *;generalize t.take (256*k)=pre at *;go_wp2_with fail;have KK:=Hd (Q.refl wr)
   (go_region_held3 (fun w'=>w'.cell? ⟨fb,0,none⟩=some (au sb))
    (first|exact g0|exact c0|exact aj δ c0)
    (first
     | (go_at_call 58;with_reducible refine(iW.out _ (HK.out.keep ω)).mono ?_;rintro e w3 ⟨rfl,rfl⟩)
     | (go_at_call 117;with_reducible refine(Ie.out _ (HK.out.keep ω)).mono ?_;rintro e w5 ⟨rfl,h5⟩;have g0:=h5.cell;have H5:=Hd h5;clear h5)))
   all_goals
    go_wp2_with fail;exact⟨⟨k+1,by go_num,U,by rw[←aX.out];exact Pu Value.string (bytes_append _ _),H5⟩,by simp[intOf];omega⟩
  ·obtain rfl:k=12:=U
   have bq:¬((12:Nat):Int)<12:=U;have JF:t.take (256*12)=t:=Mp U;rw[JF];go_wp2_with fail;go_ret;exact⟨rfl,HK.out⟩
theorem Rw(w0 w:World)(F:Nat→Prop)(b n:Nat)(h:cn w F b (af.new n))(hF:∀k,F k→k<w.heap.size)(qP:∀k,F k→w0.heap.size≤k)(q0:Q w0 w)(h1:128≤n)(h2:n≤4096):
  Calls prog 26 #[au b] w fun e w'=>∃ec,e=.returned (.int .i64 ec)∧(∃G:Nat→Prop,cn w' G b (fE n).st.j.d∧(∀k,G k→w0.heap.size≤k)∧(∀k,G k→k<w'.heap.size))∧Q w0 w':=by
 obtain⟨hz,L6,_,kr,_,_⟩:=BO n h1 h2;obtain⟨_,hf,hl,bQ,⟨s,k,fr,nN⟩,Z5,_,bW⟩:=Dg n h1 h2;obtain⟨C,i0,i1,eH,hs,ha0,kV,rU,aC⟩:=Kf n h1 h2;have D6:=Ru w F b n h hF h1 h2;have fB:=fun (W:World) (F:Nat→Prop) (h:cn W F b (fH (af.new n)).1) (hF:∀k,F k→k<W.heap.size)=>Ow W F b (fH (af.new n)).1 h hF nN (by rw[hl];exact Z5) U Z U hz
 have SV:=fun (W:World) (F:Nat→Prop) (sb:Nat) (h:cT W F sb b (bf n))=>Vp h
 have jy:=fun (W:World) (F:Nat→Prop) (sb:Nat) (h:cT W F sb b (bf n).begin.1)=>Vn h (i1.know Z) 12 Z Z
 have jB:=fun (W:World) (fb sb:Nat) (h:RF w0 W fb sb b ((bf n).begin.1.alloc 12).1)=>Vq w0 W fb sb b _ h hs Z
 have nQ:((bf n).begin.1.alloc 12).1.writes (vL ((bf n).begin.1.alloc 12).1.n [] (bR []))=((bf n).begin.1.alloc 12).1.dir [] []:=by unfold StL.dir;rw[Φ qZ]
 rw[nQ] at jB;have Ae:fY (((bf n).begin.1.alloc 12).1.dir [] []).1:=by
  rw[←nQ];exact(Ov hs [] (bR []) (kg qZ) 12 (Ω _)).know Z
 have rO:=fun (W:World) (fb sb:Nat) (h:RF w0 W fb sb b (((bf n).begin.1.alloc 12).1.dir [] []).1)=>h.call fun F hF=>Rv hF Ae
 rw[aC];have HFM:=Hd D6;have vB:=Hd fB;have HBE:=Hd SV;have OU:=Hd jy;have vC:=Hd jB;have Jz:=Hd rO;have BH:=Hd qP;have HF:=Hd hF;have Q0:=Hd q0;clear D6 fB SV jy jB rO hz L6 kr hf hl bQ nN Z5 bW i0 i1 eH hs ha0 kV rU aC nQ Ae h hF qP q0;generalize ((bf n).begin.1.alloc 12).1.dir [] []=D at *;generalize (bf n).begin.1.alloc 12=A at *;generalize lF:(bf n).begin=B at *;clear lF;go_enter func26,ntmps26;go_wp2_with fail;refine HFM.out.mono ?_;rintro e w1 ⟨rfl,JJ,t1⟩;have l1:=yH (w':=w1) BH.out Q0.out.size;have q1:=t1.low BH.out Q0.out;have ho:=vB.out w1 _ JJ (fun k hk=>hk.elim (fun hk=>Ψ (HF.out k hk) t1.size) (fun hk=>hk.2))
 have HO:=Hd ho;have L1:=Hd l1;have Q1:=Hd q1;clear ho JJ t1 l1 q1;go_wp2_with fail;refine HO.out.mono ?_;rintro e w2 ⟨sb,rfl,zW,t2⟩;have l2:=yH (w':=w2) L1.out Q1.out.size;have q2:=t2.low L1.out Q1.out;have hb:=HBE.out w2 _ sb zW;have HB:=Hd hb;have L2:=Hd l2;have Q2:=Hd q2;clear hb zW t2 l2 q2;go_wp2_with fail;refine HB.out.mono ?_;rintro e w3 ⟨rfl,h3,t3⟩;have l3:=yH (w':=w3) L2.out Q2.out.size;have q3:=t3.low L2.out Q2.out;have ha:=OU.out w3 _ sb h3;have HA:=Hd ha;have L3:=Hd l3;have Q3:=Hd q3;clear ha h3 t3 l3 q3;go_wp2_with fail;refine HA.out.mono ?_;rintro e w4 ⟨rfl,h4,t4⟩;have l4:=yH (w':=w4) L3.out Q3.out.size;have q4:=t4.low L3.out Q3.out;obtain⟨wb,rV⟩:∃wb,wb=w4.alloc (.cells #[au sb] 111):=⟨_,rfl⟩;have qb:Q w4 wb:=by rw[rV];exact Q.alloc _ _
 have bZ:Blk wb w4.heap.size 111 #[au sb]:=by rw[rV];exact Blk.new w4 _ _
 obtain⟨FJ,p,tv,_,_,Kn⟩:=h4.parts;have hrf:RF w0 wb w4.heap.size sb b A.1:=⟨_,l4,fun hc=>by have:=Kn _ hc;omega,bZ,h4.keep qb,q4.trans qb⟩
 have hw:=vC.out wb _ sb hrf;have HW:=Hd hw;clear hw h4 t4 l4 q4 qb bZ hrf Kn;go_wp2_with fail;rw[←rV];clear rV;refine HW.out.mono ?_;rintro e w5 ⟨rfl,h5⟩;have hc:=Jz.out w5 _ sb h5;have HC:=Hd hc;clear hc h5;go_wp2_with fail;refine HC.out.mono ?_;rintro e w6 ⟨rfl,h6⟩;have H6:=Hd h6;clear h6;go_wp2_with fail;go_ret;obtain⟨G,g1,g2,g3,g4,g5⟩:=H6.out;obtain⟨FJ,p,tv,r1,r2,r3⟩:=g4.parts;exact⟨_,rfl,⟨FJ,r1.jr.dev,fun k hk=>g1 k (r2 k (.inl hk)),fun k hk=>r3 k (r2 k (.inl hk))⟩,g5⟩
theorem RF.dev{w0 w:World}{fb sb b:Nat}{σ:StL}(h:RF w0 w fb sb b σ):∃a cap,w.cell? ⟨b,0,none⟩=some (.slice a σ.n cap):=by
 obtain⟨F,h1,h2,h3,h4,h5⟩:=h;obtain⟨FJ,p,tv,h6,_⟩:=h4.parts;obtain⟨lv,pv,hd⟩:=h6.jr.dev;obtain⟨a,cap,e,_⟩:=aY hd.ix;exact⟨a,cap,by rw[hd.box.cell 0 _ rfl];exact Pu some e⟩
theorem yv:(jN 4096).length=512:=by unfold jN;rw[Φ Z,Nx];rfl
theorem Yh(w0 w:World)(F:Nat→Prop)(b n:Nat)(h:cn w F b (fE n).st.j.d)(hF:∀k,F k→k<w.heap.size)(qP:∀k,F k→w0.heap.size≤k)(q0:Q w0 w)(h1:128≤n)(h2:n≤4096):
  Calls prog 27 #[au b,.int .i64 64] w fun e w'=>∃p ec,e=.returned (.tuple #[.pointer p,.int .i64 ec])∧Q w0 w':=by
 obtain⟨C,hg,uX⟩:=Kj n h1 h2;obtain⟨⟨s,k,fr,nN⟩,g2,_,g4,g5,_,_,g8,g9,_,g11,_⟩:=DT hg Z;rw[uX] at g11;obtain⟨⟨fr',hi⟩,_,hn⟩:=g11;have fB:=Ow w F b (fE n).st.j.d h hF nN g2 U Z U g9;have xV:(ng (fE n).st.j.d []).st=aV (fE n).st.j.d:=rfl;rw[xV] at hn;have Ae:fY (aV (fE n).st.j.d):=hi.st.know Z;have lK:ak n+12≤n:=by have:=hi.good.room;rwa [xV,hn] at this
 have mO:(aV (fE n).st.j.d).tx=[]:=hi.st.closed hi.closed;have dz:∀k:Nat,k<12→(aV (fE n).st.j.d).read ((ak (aV (fE n).st.j.d).n+k:Nat):Int)=(aG (bR []) k,0):=fun k hk=>by
  have h1:(aV (fE n).st.j.d).dead=false:=hi.live;have h2:(aV (fE n).st.j.d).cQ ((ak (aV (fE n).st.j.d).n+k:Nat):Int)=true:=by unfold StL.cQ;rw[hn];simp;omega
  have h3:(aV (fE n).st.j.d).get (ak (aV (fE n).st.j.d).n+k)=aG (bR []) k:=by
   have anc:63≤ak (aV (fE n).st.j.d).n:=by unfold ak;omega
   have:=hi.st.get (ak (aV (fE n).st.j.d).n+k) U (by show _<(aV (fE n).st.j.d).n;rw[hn];omega)
   rw[xV,mO] at this;rw[this];exact hi.good.dir k hk
  unfold StL.read;rw[h1,h2,η Z,Φ rfl,OK,h3]
 have iT:=fun (W:World) (fb sb:Nat) (hr:RF w0 W fb sb b (aV (fE n).st.j.d))=>Vr w0 W fb sb b _ hr Ae (by rw[hn];exact h2) (by rw[hn];omega) (bR []) (kg qZ) dz
 have eP:=fun (W:World) (fb sb:Nat) (hr:RF w0 W fb sb b (aV (fE n).st.j.d))=>hr.first (by rw[hn];exact h2)
 have pO:=fun (W:World) (fb sb:Nat) (hr:RF w0 W fb sb b (aV (fE n).st.j.d))=>(show Calls prog 64 #[au sb] W (fun e w'=>∃v,e=.returned v∧w'.ownsRow W.heap.size 87 2 v (mW (aV (fE n).st.j.d).ai (ak n) n).length (ext (mW (aV (fE n).st.j.d).ai (ak n) n))∧Q W w') from by
  obtain⟨F,_,_,_,h4,_⟩:=hr;have:=Yg h4 Ae hi.live hi.st.map.low;rwa [hn] at this)
 have qE:=fun (W:World) (fb sb:Nat) (hr:RF w0 W fb sb b (aV (fE n).st.j.d))=>hr.dev
 rw[hn] at eP qE;have kS:∀r∈mW (aV (fE n).st.j.d).ai (ak n) n,r.1+r.2≤4096:=fun r hr=>by
  have lq:=hi.st.map.low;rw[xV,hn] at lq;rw[yC _ _ _ lq U] at hr;have:=(BN _ _ _ r hr).2.1;omega
 have nk:(mW (aV (fE n).st.j.d).ai (ak n) n).length≤4096:=by
  have lq:=hi.st.map.low;rw[xV,hn] at lq;rw[yC _ _ _ lq U];exact LS (GJ _ _ _) U
 have nV:=fun (W:World)=>Rk W
 have zM:=fun (a c:Int) (W:World)=>Dq a c W
 have Aa:=fun (W:World)=>Nw 4096 W
 have iU:=yv;have rD:=fun (m:Bytes) (hm:m.length=512) (s c:Nat) (z8:s+c≤4096) (W:World)=>(MO m s c true W (by rw[hm];decide) (by rw[hm];omega)).mono fun e w' hx=>(show e=.returned (.tuple #[ah (bF m s true c),.bool true])∧Q W w' from hx)
 have qp:=fun (m:Bytes) (s c:Nat)=>jL m s true c
 have vB:=Hd fB;have Ic:=Hd iT;have iW:=Hd eP;have Tf:=Hd pO;have VW:=Hd qE;have xO:=Hd kS;have zL:=Hd nV;have Mt:=Hd zM;have JE:=Hd Aa;have Mv:=Hd rD;have FE:=Hd qp;have BH:=Hd qP;have mF:=Hd q0;clear fB iT eP pO qE kS nV zM Aa rD qp qP q0 hF h dz mO Ae xV hi hg uX nN g2 g4 g5 g8 g9;generalize aV (fE n).st.j.d=σ at *;generalize mW σ.ai (ak n) n=us at *;generalize bR []=pk at *;generalize jN 4096=mk at *;generalize ak n=fd at *;go_enter func27,ntmps27;go_wp2_with fail;refine vB.out.mono ?_;rintro e w1 ⟨sb,rfl,JJ,t1⟩;have l1:=yH (w':=w1) BH.out mF.out.size;have q1:=t1.low BH.out mF.out;obtain⟨wb,rV⟩:∃wb,wb=w1.alloc (.cells #[au sb] 111):=⟨_,rfl⟩;have qb:Q w1 wb:=by rw[rV];exact Q.alloc _ _
 have bZ:Blk wb w1.heap.size 111 #[au sb]:=by rw[rV];exact Blk.new w1 _ _
 obtain⟨FJ,p,tv,_,_,Kn⟩:=JJ.parts;have hrf:RF w0 wb w1.heap.size sb b σ:=⟨_,l1,fun hc=>by have:=Kn _ hc;omega,bZ,JJ.keep qb,q1.trans qb⟩
 have H1:=Hd hrf;clear JJ t1 l1 q1 qb bZ hrf Kn;obtain⟨da,dc,c0⟩:=VW.out _ _ _ H1.out;have e1:IntKind.i64.wrap ((fd:Int)+12)=(fd:Int)+12:=IntWalk.i64_in _ U;have e2:¬(n:Int)<(fd:Int)+12:=U;go_wp2_with fail;rw[←rV];clear rV;refine(iW.out _ _ _ H1.out).mono ?_;rintro e w2 ⟨rfl,rfl⟩;go_wp2_with fail;refine(Ic.out _ _ _ H1.out).mono ?_;rintro e w2 ⟨rfl,zW⟩;have H2:=Hd zW;clear zW H1 c0;go_wp2_with fail;refine(zL.out _).mono ?_;rintro e w3 ⟨rfl,q3⟩;have H3:=Hd (H2.out.keep q3);clear q3 H2;obtain⟨da,dc,c0⟩:=VW.out _ _ _ H3.out;go_wp2_with fail;refine(Mt.out _ _ _).mono ?_;rintro e w4 ⟨rfl,rfl⟩;go_wp2_with fail;refine(JE.out _).mono ?_;rintro e w4 ⟨rfl,q4⟩;have H4:=Hd (H3.out.keep q4);clear q4 H3 c0;go_wp2_with fail;refine(iW.out _ _ _ H4.out).mono ?_;rintro e w5 ⟨rfl,rfl⟩;go_wp2_with fail;refine(Mv.out mk iU fd 12 U _).mono ?_;rintro e w5 ⟨rfl,q5⟩;have H5:=Hd (H4.out.keep q5);have dZ:(bF mk fd true 12).length=512:=by rw[FE.out];exact iU
 clear q5 H4;generalize bF mk fd true 12=bits at *;go_wp2_with fail;go_loopw [13,15] (fun x i wr=>x=ah bits∧i=.int .i64 0∧wr=w5) (fun _ _ _=>0)
 case atStart=>exact⟨rfl,rfl,rfl⟩
 case round =>
  obtain⟨rfl,rfl,rfl⟩:=hrel;go_wp2_with fail;refine(Tf.out _ _ _ H5.out).mono ?_;rintro e w6 ⟨v,rfl,ho,q6⟩;obtain⟨va,vc,rfl,Hu⟩:=aY ho;have H6:=Hd (H5.out.q.trans q6);have aP:0<us.length→∃g,va=some ⟨g,0,none⟩∧∀k (hk:k<us.length),w6.cell? ⟨g,k*2,none⟩=some (.int .i64 us[k].1)∧w6.cell? ⟨g,k*2+1,none⟩=some (.int .i64 us[k].2):=fun hp=>by
   obtain⟨g,rfl⟩:=Hu hp;exact⟨g,rfl,Ou ho⟩
  have xW:=Hd aP;clear q6 ho Hu aP;go_wp2_with fail;refine(JE.out _).mono ?_;rintro e w7 ⟨rfl,q7⟩;have Q7:=Hd q7;clear q7;go_wp2_with fail;go_loopw [18,19] (fun x i wr=>∃(k:Nat) (m:Bytes),x=ah m∧i=.int .i64 (k:Nat)∧k≤us.length∧m.length=512∧Hid (Q w6 wr)) (fun _ i _=>us.length-(intOf i).toNat)
  case atStart=>exact⟨0,mk,rfl,rfl,L0 _,iU,Q7⟩
  case round =>
   obtain⟨k,m,rfl,rfl,hk,hm,HQ⟩:=hrel;by_cases ay:k<us.length
   ·have bq:(k:Int)<(us.length:Int):=U
    have lT:(0:Int)≤(k:Int):=U;obtain⟨g,rfl,hc⟩:=xW.out U;obtain⟨x0,x1⟩:=hc k ay;replace x0:=aj HQ.out x0;replace x1:=aj HQ.out x1;have hr:=xO.out _ (LO ay);generalize us[k]=r at *;obtain⟨r1,r2⟩:=r;simp only[] at x0 x1 hr;have rD:=fun (W:World)=>Mv.out m hm r1 r2 hr W
    have VZ:(bF m r1 true r2).length=512:=by rw[FE.out];exact hm
    have HS:=Hd rD;have HM:=Hd hm;clear rD hc hm;generalize bF m r1 true r2=m2 at *;have LY:=Hd VZ;clear VZ;have KK:=Hd (Q.refl wr);go_wp2_with fail
    (go_region_held3 (fun w'=>w'.cell? ⟨g,k*2,none⟩=some (.int .i64 (r1:Nat))∧w'.cell? ⟨g,k*2+1,none⟩=some (.int .i64 (r2:Nat)))
     (first|exact⟨x0,x1⟩|exact two δ x0 x1)
     (first
      | (go_at_call 62;with_reducible refine(HS.out _).mono ?_;rintro e w8 ⟨rfl,q8⟩;have s':Q wr w8:=Q.trans ω q8;clear KK;have KK:=Hd s';clear s' q8)))
    all_goals
     go_wp2_with fail;exact⟨⟨k+1,m2,rfl,by go_num,U,LY.out,Hd (HQ.out.trans KK.out)⟩,by simp[intOf];omega⟩
   ·obtain rfl:k=us.length:=U
    have bq:¬(us.length:Int)<(us.length:Int):=U;have lG:=Hd (H6.out.trans HQ.out);by_cases Pj:(bits==m)=true
    ·go_wp2_with fail
     all_goals
      go_returns;exact⟨⟨_,_,rfl⟩,lG.out⟩
    ·have ane:(bits==m)=false:=by simpa using Pj
     go_wp2_with fail;all_goals
      go_returns;exact⟨⟨_,_,rfl⟩,lG.out⟩
theorem DW(w:World)(n most:Nat)(h1:128≤n)(h2:n≤4096)(hm:64≤most∧most≤1024):
  Calls prog 22 #[.int .i64 (n:Nat),.int .i64 (most:Nat)] w fun e w'=>∃fb b,e=.returned (.tuple #[au b,au fb,.bool true])∧FW (fun _=>False) w w' fb b (st9 n) 12:=by
 obtain⟨C,hg,uX⟩:=Kj n h1 h2;obtain⟨_,_,_,g4,g5,_,_,g8,_,g10,g11,_⟩:=DT hg Z;rw[uX] at g11;obtain⟨⟨fr',hi⟩,_,_⟩:=g11;have rT:=Hm w n U h2;have D6:=fun (W:World) (F:Nat→Prop) (b:Nat) (h:cF W F b (af.new n)) (hF:∀k,F k→k<W.heap.size)=>Va W F b n h hF h1 h2
 have fB:=fun (W:World) (F:Nat→Prop) (b:Nat) (h:cF W F b (fE n).st.j.d) (hF:∀k,F k→k<W.heap.size)=>Rf W F b (fE n).st.j.d most [] h hF g5 (fun _=>U) hm g10 hi Z
 have zK:=Hd rT;have HFM:=Hd D6;have vB:=Hd fB;clear rT D6 fB hi hg uX g4 g5 g8 g10;rw[show ng (fE n).st.j.d []=st9 n from rfl] at vB
 generalize (fE n).st.j.d=d at *;generalize st9 n=φ at *;go_enter func22,ntmps22;go_wp2_with fail;refine zK.out.mono ?_;rintro e w1 ⟨rfl,Bu,q1⟩;have hf:=HFM.out w1 _ _ Bu (fun k hk=>hk.2)
 have HF:=Hd hf;have Q1:=Hd q1;clear hf Bu q1;go_wp2_with fail;refine HF.out.mono ?_;rintro e w2 ⟨rfl,⟨G,Md,hG⟩,t2⟩;have Ig:∀k,G k→w.heap.size≤k∧k<w2.heap.size:=fun k hk=>by
  have hs:=t2.size;have:=Q1.out.size;rcases hG k hk with hk|hk
  ·exact⟨hk.1,Ψ hk.2 hs⟩
  ·exact⟨U,hk.2⟩
 have ho:=vB.out w2 _ _ Md (fun k hk=>(Ig k hk).2)
 have HO:=Hd ho;have Q2:=Hd (t2.low (fun k hk=>hk.1) Q1.out);have HG:=Hd Ig
 clear ho Md t2 hG Ig;go_wp2_with fail;refine HO.out.mono ?_;rintro e w3 ⟨fb,rfl,⟨G3,sb,h3,hG3⟩,OD,t3⟩;have H3:=Hd h3;have gF:=Hd hG3;have T3:=Hd t3;have HFB:=Hd OD;clear h3 hG3 t3 OD;go_wp2_with fail;go_ret3;have jm:=Q2.out.size;refine⟨_,_,rfl,G3,sb,fun k hk=>?_,fun _ _ hc=>hc,fun _ hc=>hc.elim,H3.out,T3.out.low (fun k hk=>(HG.out k hk).1) Q2.out⟩
 rcases hk with hk|hk
 ·rcases gF.out k hk with hk|hk
  ·exact(HG.out k hk).1
  ·omega
 ·have:=HFB.out;omega
theorem Yi(w:World)(most:Nat)(hm:64≤most∧most≤1024):
  Calls prog 8 #[.int .i64 (most:Nat)] w fun e w'=>∃wb fb b mb,e=.returned (.tuple #[au wb,au mb,.bool true])∧WW w w' wb fb b (st9 140) 12:=by
 have Mq:=DW w 140 most Z Z hm;have rT:=fun (W:World)=>A4 W 140 Z Z
 have D6:=fun (W0 W:World) (F:Nat→Prop) (b:Nat) (h:cn W F b (af.new 140)) (hF:∀k,F k→k<W.heap.size) (qP:∀k,F k→W0.heap.size≤k) (q:Q W0 W)=>Rw W0 W F b 140 h hF qP q Z Z
 have fB:=fun (W0 W:World) (F:Nat→Prop) (b:Nat) (h:cn W F b (fE 140).st.j.d) (hF:∀k,F k→k<W.heap.size) (qP:∀k,F k→W0.heap.size≤k) (q:Q W0 W)=>Yh W0 W F b 140 h hF qP q Z Z
 have HFO:=Hd Mq;have zK:=Hd rT;have HFM:=Hd D6;have vB:=Hd fB;clear Mq rT D6 fB;have e140:((140:Nat):Int)=140:=rfl;rw[e140] at HFO zK;generalize (fE 140).st.j.d=d at *;generalize st9 140=φ at *;go_enter func8,ntmps8;go_wp2_with fail;refine HFO.out.mono ?_;rintro e w1 ⟨fb,b,rfl,h1⟩;have H1:=Hd h1;clear h1;go_wp2_with fail;refine(zK.out _).mono ?_;rintro e w2 ⟨rfl,Md,q2⟩;have hf:=HFM.out w1 w2 _ _ Md (fun k hk=>hk.2) (fun k hk=>hk.1) q2
 have HF:=Hd hf;clear hf Md q2;go_wp2_with fail;refine HF.out.mono ?_;rintro e w3 ⟨ec,rfl,⟨G,Y7,TK,Ig⟩,q3⟩;have ho:=vB.out w1 w3 _ _ Y7 Ig TK q3;have HO:=Hd ho;clear ho Y7 TK Ig q3;go_wp2_with fail;refine HO.out.mono ?_;rintro e w4 ⟨p,ec2,rfl,q4⟩;have H4:=Hd (H1.out.keep q4);clear q4 H1;go_wp2_with fail;go_ret3;have kJ:=Q.alloc w4 (.cells #[au b,au fb] 33);have gY:=Blk.new w4 33 #[au b,au fb];generalize wJ:w4.alloc (.cells #[au b,au fb] 33)=w5 at *;have yj:=Q.alloc w5 (.cells #[au w1.heap.size,.pointer p] 66);obtain⟨F,sb,x1,x2,x3,⟨v,x4⟩,x5⟩:=(H4.out.keep kJ).keep yj;have ay:=H4.out;obtain⟨F',sb',y1,y2,y3,⟨v',y4⟩,y5⟩:=H4.out;have xU:=y4.fi;have hz:w5.heap.size=w4.heap.size+1:=by rw[←wJ];exact World.size_alloc ..
 refine⟨w4.heap.size,fb,b,w5.heap.size,by rw[hz];rfl,⟨F',sb',y1,fun k hk hc=>?_,fun k hc=>?_,⟨v',(y4.keep kJ).keep yj⟩,(y5.trans kJ).trans yj⟩,gY.stays yj⟩
 ·have:=xU k hk
  have h9:k=w4.heap.size:=hc;omega
 ·have h9:k=w4.heap.size:=hc
  have:=yj.size;omega
end
section
open Go.RowKit
section
variable {P:Nat→Prop} {w0 w:World} {fb b:Nat} {φ φ':FsL} {K:Nat} {c:Int}
theorem FW.via{R:Ending→Prop}{f:FuncId}{av:Array Value}(h:FW P w0 w fb b φ K)(hc:∀(F:Nat→Prop) (sb:Nat) (v:Value),FsG w F fb sb b φ K v→Calls prog f av w fun e w'=>R e∧FsR w w' F fb sb b φ' (K+3000000000)):Calls prog f av w fun e w'=>R e∧FW P w0 w' fb b φ' (K+3000000000)∧ae (fun k=>¬P k) w w':=by
 obtain⟨F,sb,v,h1,h2,h3,h4⟩:=h.next (Q.refl w);exact(hc F sb v h1).mono fun e w' hx=>⟨hx.1,(h4 w w' _ _ (Q.refl w) hx.2).1,(h4 w w' _ _ (Q.refl w) hx.2).2.mono h3⟩
theorem FW.create(h:FW P w0 w fb b φ K)(hI:FOk φ)(hK:K≤900000000000000000)(s:Bytes)(hs:s.length≤1000)(e:φ.create s=(φ',c)):Calls prog 9 #[au fb,ah s] w fun e w'=>e=.returned (.int .i64 c)∧FW P w0 w' fb b φ' (K+3000000000)∧ae (fun k=>¬P k) w w' :=
 h.via fun F sb v hg=>by
  have:=Jg w F fb sb b φ K v s hg hI U U
  rw[e] at this
  exact this.mono fun e w' hx=>⟨hx.1,hx.2.mono U⟩
theorem FW.append(h:FW P w0 w fb b φ K)(hI:FOk φ)(hK:K≤900000000000000000)(s d:Bytes)(hs:d.length≤7000)(e:φ.append s d=(φ',c)):Calls prog 11 #[au fb,ah s,ah d] w fun e w'=>e=.returned (.int .i64 c)∧FW P w0 w' fb b φ' (K+3000000000)∧ae (fun k=>¬P k) w w' :=
 h.via fun F sb v hg=>by
  have:=Jj w F fb sb b φ K v s d hg hI U U
  rw[e] at this
  exact this.mono fun e w' hx=>⟨hx.1,hx.2.mono U⟩
theorem FW.seal(h:FW P w0 w fb b φ K)(hI:FOk φ)(hK:K≤900000000000000000)(s:Bytes)(e:φ.gd s=(φ',c)):Calls prog 23 #[au fb,ah s] w fun e w'=>e=.returned (.int .i64 c)∧FW P w0 w' fb b φ' (K+3000000000)∧ae (fun k=>¬P k) w w' :=
 h.via fun F sb v hg=>by
  have:=N8 w F fb sb b φ K v s hg hI U
  rw[e] at this
  exact this.mono fun e w' hx=>⟨hx.1,hx.2.mono U⟩
theorem FW.delete(h:FW P w0 w fb b φ K)(hI:FOk φ)(hK:K≤900000000000000000)(s:Bytes)(e:φ.delete s=(φ',c)):Calls prog 24 #[au fb,ah s] w fun e w'=>e=.returned (.int .i64 c)∧FW P w0 w' fb b φ' (K+3000000000)∧ae (fun k=>¬P k) w w' :=
 h.via fun F sb v hg=>by
  have:=Gw w F fb sb b φ K v s hg hI U
  rw[e] at this
  exact this.mono fun e w' hx=>⟨hx.1,hx.2.mono U⟩
theorem FW.rename(h:FW P w0 w fb b φ K)(hI:FOk φ)(hK:K≤900000000000000000)(s t:Bytes)(ht:t.length≤1000)(e:φ.rename s t=(φ',c)):Calls prog 21 #[au fb,ah s,ah t] w fun e w'=>e=.returned (.int .i64 c)∧FW P w0 w' fb b φ' (K+3000000000)∧ae (fun k=>¬P k) w w' :=
 h.via fun F sb v hg=>by
  have:=Ji w F fb sb b φ K v s t hg hI U U
  rw[e] at this
  exact this.mono fun e w' hx=>⟨hx.1,hx.2.mono U⟩
theorem FW.cC(h:FW P w0 w fb b φ K)(hI:FOk φ)(hK:K≤900000000000000000)(s:Bytes)(a n:Int)(ha : -9223372036854775808≤a∧a≤9223372036854775807){t:Bytes}(e:φ.cC s a n=(t,c)):Calls prog 14 #[au fb,ah s,.int .i64 a,.int .i64 n] w fun e w'=>e=.returned (.tuple #[ah t,.int .i64 c])∧FW P w0 w' fb b φ (K+3000000000)∧ae (fun k=>¬P k) w w' :=
 h.via fun F sb v hg=>by
  have:=Jh w F fb sb b φ K v s a n hg hI U ha
  rw[e] at this
  exact this.mono fun e w' hx=>⟨hx.1,hx.2.mono U⟩
theorem FW.free(h:FW P w0 w fb b φ K)(hI:FOk φ)(hd:φ.st.dead=false):Calls prog 18 #[au fb] w fun e w'=>e=.returned (.int .i64 (φ.free:Nat))∧FW P w0 w' fb b φ K∧ae (fun k=>¬P k) w w':=by
 obtain⟨F,sb,v,h1,h2,h3,h4⟩:=h.next (Q.refl w);obtain⟨_,KI,fr,C,hi,gM⟩:=hI.resolve_left (by rw[hd];simp)
 exact(aam w F fb sb b φ K v h1 (hi.st.num U)).mono fun e w' hx=>⟨hx.1,h.keep hx.2,ae.br hx.2⟩
theorem FW.used(h:FW P w0 w fb b φ K)(hI:FOk φ)(hd:φ.st.dead=false):Calls prog 17 #[au fb] w fun e w'=>e=.returned (.int .i64 (φ.used:Nat))∧FW P w0 w' fb b φ K∧ae (fun k=>¬P k) w w':=by
 obtain⟨F,sb,v,h1,h2,h3,h4⟩:=h.next (Q.refl w);obtain⟨_,KI,fr,C,hi,gM⟩:=hI.resolve_left (by rw[hd];simp)
 have hc:=hi.count;have hr:=hi.good.room;exact(N9 w F fb sb b φ K v h1 (hi.st.num U) (by have:=hc.2;unfold FsL.free at this;omega)).mono fun e w' hx=>⟨hx.1,h.keep hx.2,ae.br hx.2⟩
theorem WW.lift{wb:Nat}{R:Ending→Prop}{f:FuncId}{av:Array Value}{K':Nat}(h:WW w0 w wb fb b φ K)(hc:Calls prog f av w fun e w'=>R e∧FW (fun k=>k=wb) w0 w' fb b φ' K'∧ae (fun k=>¬k=wb) w w'):Calls prog f av w fun e w'=>R e∧WW w0 w' wb fb b φ' K' :=
 hc.mono fun e w' hx=>⟨hx.1,hx.2.1,hx.2.2.blk h.2 (fun hn=>hn rfl)⟩
end
theorem Yj(w:World):Calls prog 6 #[] w fun e w'=>e=.returned (.bool true)∧Q w w':=by
 have Mq:=DW w 128 64 Z Z Z;obtain⟨s1,s2,s3,s4,s5,C0,C1,C2,C3,C4,C5,g0,g1,g2,g3,g4,g5,a0,a1,a2,a3,a4,a5,a6,a7,a8,a9,a10,f0,u0,f2,f5⟩:=I1 128 Z Z;generalize st9 128=s0 at *;have i0:=g0.ok Z;have i1:=g1.ok Z;have i2:=g2.ok Z;have i3:=g3.ok Z;have i4:=g4.ok Z;have i5:=g5.ok Z;have d0:=(g0.fok Z).1;have d2:=(g2.fok Z).1;have d5:=(g5.fok Z).1;have k1:=fun (W:World) fb b K (h:FW (fun _=>False) w W fb b s0 K)=>h.free i0 d0
 have k2:=fun (W:World) fb b K (h:FW (fun _=>False) w W fb b s0 K)=>h.used i0 d0
 have k3:=fun (W:World) fb b K (h:FW (fun _=>False) w W fb b s0 K) (hK:K≤900000000000000000)=>h.create i0 hK aS Z a0
 have k4:=fun (W:World) fb b K (h:FW (fun _=>False) w W fb b s1 K) (hK:K≤900000000000000000)=>h.create i1 hK aS Z a1
 have k5:=fun (W:World) fb b K (h:FW (fun _=>False) w W fb b s1 K) (hK:K≤900000000000000000)=>h.append i1 hK aS xS (by rw[show xS.length=300 from Nx];decide) a2
 have k6:=fun (W:World) fb b K (h:FW (fun _=>False) w W fb b s2 K)=>h.free i2 d2
 have k7:=fun (W:World) fb b K (h:FW (fun _=>False) w W fb b s2 K) (hK:K≤900000000000000000)=>h.cC i2 hK aS 250 100 Z a3
 have k8:=fun (W:World) fb b K (h:FW (fun _=>False) w W fb b s2 K) (hK:K≤900000000000000000)=>h.cC i2 hK aS 300 1 Z a4
 have k9:=fun (W:World) fb b K (h:FW (fun _=>False) w W fb b s2 K) (hK:K≤900000000000000000)=>h.cC i2 hK aS 301 1 Z a5
 have k10:=fun (W:World) fb b K (h:FW (fun _=>False) w W fb b s2 K) (hK:K≤900000000000000000)=>h.seal i2 hK aS a6
 have k11:=fun (W:World) fb b K (h:FW (fun _=>False) w W fb b s3 K) (hK:K≤900000000000000000)=>h.append i3 hK aS [120] Z a7
 have k12:=fun (W:World) fb b K (h:FW (fun _=>False) w W fb b s3 K) (hK:K≤900000000000000000)=>h.rename i3 hK aS bS Z a8
 have k13:=fun (W:World) fb b K (h:FW (fun _=>False) w W fb b s4 K) (hK:K≤900000000000000000)=>h.rename i4 hK aS [99] Z a9
 have k14:=fun (W:World) fb b K (h:FW (fun _=>False) w W fb b s4 K) (hK:K≤900000000000000000)=>h.delete i4 hK bS a10
 have k15:=fun (W:World) fb b K (h:FW (fun _=>False) w W fb b s5 K)=>h.free i5 d5
 have Ed:=fun (W:World)=>Ci 120 300 W Z
 have VO:=fun (W:World)=>Ci 120 50 W Z
 rw[show List.replicate 300 (120:UInt8)=xS from rfl] at Ed
 have e120:((120:UInt8).toNat:Int)=120:=rfl;have e300:((300:Nat):Int)=300:=rfl;have e50:((50:Nat):Int)=50:=rfl;rw[e120,e300] at Ed;rw[e120,e50] at VO;simp only[f0] at k1;simp only[u0] at k2;simp only[f2] at k6;simp only[f5] at k15;unfold aS at k3 k4 k5 k7 k8 k9 k10 k11 k12 k13;unfold bS at k12 k14;have H1:=Hd k1;have H2:=Hd k2;have H3:=Hd k3;have H4:=Hd k4;have H5:=Hd k5;have H6:=Hd k6;have H7:=Hd k7;have H8:=Hd k8;have H9:=Hd k9;have H10:=Hd k10;have H11:=Hd k11;have H12:=Hd k12;have H13:=Hd k13;have H14:=Hd k14;have H15:=Hd k15;have HFO:=Hd Mq;have Wj:=Hd Ed;have HFV:=Hd VO;clear k1 k2 k3 k4 k5 k6 k7 k8 k9 k10 k11 k12 k13 k14 k15 Mq Ed VO g0 g1 g2 g3 g4 g5 a0 a1 a2 a3 a4 a5 a6 a7 a8 a9 a10 f0 u0 f2 f5 i0 i1 i2 i3 i4 i5 d0 d2 d5;generalize xS=xs at *;generalize List.replicate 50 (120:UInt8)=x5 at *;go_enter func6,ntmps6;go_wp2_with fail;refine HFO.out.mono ?_;rintro e w1 ⟨fb,b,rfl,h1⟩;have S0:=Hd h1;clear h1 HFO;go_wp2_with fail;refine(H1.out _ _ _ _ S0.out).mono ?_;rintro e wx ⟨rfl,hx,_⟩;have S1:=Hd hx;clear hx S0;go_wp2_with fail;refine(H2.out _ _ _ _ S1.out).mono ?_;rintro e wx ⟨rfl,hx,_⟩;have S2:=Hd hx;clear hx S1;go_wp2_with fail;refine(H3.out _ _ _ _ S2.out Z).mono ?_;rintro e wx ⟨rfl,hx,_⟩;have S3:=Hd hx;clear hx S2;go_wp2_with fail;refine(H4.out _ _ _ _ S3.out Z).mono ?_;rintro e wx ⟨rfl,hx,_⟩;have S4:=Hd hx;clear hx S3;go_wp2_with fail;refine(Wj.out _).mono ?_;rintro e wx ⟨rfl,qx⟩;have S5:=Hd (S4.out.keep qx);clear qx S4;go_wp2_with fail;refine(H5.out _ _ _ _ S5.out Z).mono ?_;rintro e wx ⟨rfl,hx,_⟩;have S6:=Hd hx;clear hx S5;go_wp2_with fail;refine(H6.out _ _ _ _ S6.out).mono ?_;rintro e wx ⟨rfl,hx,_⟩;have S7:=Hd hx;clear hx S6;go_wp2_with fail;refine(H7.out _ _ _ _ S7.out Z).mono ?_;rintro e wx ⟨rfl,hx,_⟩;have S8:=Hd hx;clear hx S7;go_wp2_with fail;refine(H8.out _ _ _ _ S8.out Z).mono ?_;rintro e wx ⟨rfl,hx,_⟩;have S9:=Hd hx;clear hx S8;go_wp2_with fail;refine(H9.out _ _ _ _ S9.out Z).mono ?_;rintro e wx ⟨rfl,hx,_⟩;have S10:=Hd hx;clear hx S9;go_wp2_with fail;refine(HFV.out _).mono ?_;rintro e wx ⟨rfl,qx⟩;have S11:=Hd (S10.out.keep qx);clear qx S10;go_wp2_with fail;refine(H10.out _ _ _ _ S11.out Z).mono ?_;rintro e wx ⟨rfl,hx,_⟩;have S12:=Hd hx;clear hx S11;go_wp2_with fail;refine(H11.out _ _ _ _ S12.out Z).mono ?_;rintro e wx ⟨rfl,hx,_⟩;have S13:=Hd hx;clear hx S12;go_wp2_with fail;refine(H12.out _ _ _ _ S13.out Z).mono ?_;rintro e wx ⟨rfl,hx,_⟩;have S14:=Hd hx;clear hx S13;go_wp2_with fail;refine(H13.out _ _ _ _ S14.out Z).mono ?_;rintro e wx ⟨rfl,hx,_⟩;have S15:=Hd hx;clear hx S14;go_wp2_with fail;refine(H14.out _ _ _ _ S15.out Z).mono ?_;rintro e wx ⟨rfl,hx,_⟩;have S16:=Hd hx;clear hx S15;go_wp2_with fail;refine(H15.out _ _ _ _ S16.out).mono ?_;rintro e wx ⟨rfl,hx,_⟩;have S17:=Hd hx;clear hx S16;go_wp2_with fail;go_ret;exact⟨rfl,S17.out.q⟩
end
section
open Go.ChangeShapes Go.WideShapes Go.ChangeAt Go.RowKit Go.Deep
theorem AH(css:List (List Value))(sz:Nat)(h:∀c∈css,c.length=sz)(j:Nat)(u:Value)(hj:css.flatten[j]?=some u):∃i r c,css[i]?=some c∧c[r]?=some u∧j=i*sz+r∧r<sz:=by
 induction css generalizing j with
 | nil=>simp at hj
 | cons c css ih =>
  have hc:=h c κ;rw[To] at hj;by_cases ay:j<c.length
  ·rw[Tb ay] at hj
   exact⟨0,j,c,rfl,hj,U,U⟩
  ·rw[OF U] at hj
   obtain⟨i,r,c',h1,h2,h3,h4⟩:=ih (fun x hx=>h x (by simp[hx])) _ hj
   exact⟨i+1,r,c',by simpa using h1,h2,by rw[aeL];omega,h4⟩
theorem Vs(css:List (List Value))(sz:Nat)(h:∀c∈css,c.length=sz):css.flatten.length=css.length*sz:=by
 induction css with
 | nil=>simp
 | cons c css ih =>
  rw[To,Δ,ih (fun x hx=>h x (by simp[hx])),h c κ,Θ,aeL];omega
section
variable {H:Type} {enc:TypeId×Value→H} {P:Program} {w:World} {base:Nat} {spare:Nat→Bool} {held:Bool}
theorem aak{α:Type}[Inhabited α]{t e:TypeId}(ht:P.underlying t=some (.slice e))(sz:Nat)(hC:P.cellsOf e=sz)(bP:0<sz)(R:List Value→α→Prop)
  (hR:∀n cs x,DataW.trod enc P w base spare held n e cs=some x→∃a,R cs a) {fuel:Nat} {v:Value} {x:DataW H×List MemPlace} (h:DataW.trod enc P w base spare held fuel t [v]=some x) :
  ∃(xs:List α) (css:List (List Value)),xs.length=css.length∧Sl w v xs.length sz css.flatten∧(∀(i:Nat) a c,css[i]?=some c→xs[i]?=some a→R c a)∧xs.length≤maxLen:=by
 rcases open_slice ht h with ⟨h0,_⟩|⟨a,len,cap,m,n,D,Pl,mQ,_,hl,hm,zX,_,hel⟩
 ·obtain rfl:v=.slice none 0 0:=by simpa using h0
  exact⟨[],[],rfl,Sl.nil _ _,fun i a c hc=>by simp at hc,κ⟩
 ·obtain rfl:v=.slice (some a) len cap:=by simpa using mQ
  have VZ:len≤m:=by rw[zX];split<;>omega
  have hex:∀i:Nat,∃p:List Value×α,i<len→(w.cells? base (a.add (i*sz)) sz=some p.1∧R p.1 p.2):=by
   intro i;by_cases hi:i<len
   ·obtain⟨cs',h1,h2⟩:=hel i U
    rw[hC] at h1;obtain⟨b,hb⟩:=hR _ _ _ h2;exact⟨(cs',b),fun _=>⟨h1,hb⟩⟩
   ·exact⟨([],default),fun h=>absurd h hi⟩
  obtain⟨f,hf⟩:=Classical.axiomOfChoice hex;have hlen:∀c∈(List.range len).map (fun i=>(f i).1),c.length=sz:=by
   intro c hc;obtain⟨i,hi,rfl⟩:=MD.1 hc;exact(World.cells?_some (hf i (P4.1 hi)).1).2.1
  refine⟨(List.range len).map (fun i=>(f i).2),(List.range len).map (fun i=>(f i).1),κ,⟨?_,some a,cap,κ,fun hn=>?_⟩,fun i b c hc hb=>?_,by simp;omega⟩
  ·rw[Vs _ sz hlen];simp
  ·simp only[NE,UT] at hn
   have h0:=(World.cells?_some (hf 0 hn).1).2.2 0 bP;obtain⟨b,off,spot⟩:=a;have uX:=(World.cells?_some (hf 0 hn).1).2.1;rw[LN U] at h0;have afP:spot=none:=by simpa[Addr.add] using World.cell?_spot h0
   subst afP;refine⟨b,off,rfl,fun j u hj=>?_⟩
   obtain⟨i,r,c,h1,h2,h3,h4⟩:=AH _ sz hlen j u hj;rw[SR] at h1;cases hr:(List.range len)[i]? with
   | none=>rw[hr] at h1;cases h1
   | some i' =>
    rw[hr] at h1;cases h1;obtain⟨Cm,CX⟩:=NX.1 hr;rw[ac2] at CX;subst CX;have:=(World.cells?_some (hf i (by simpa using Cm)).1).2.2 r h4
    rw[h2,oD,oD] at this;rw[h3,←Ps];exact this
  ·rw[SR] at hc hb
   cases hr:(List.range len)[i]? with
   | none=>rw[hr] at hc;cases hc
   | some i' =>
    rw[hr] at hc hb;cases hc;cases hb;obtain⟨Cm,CX⟩:=NX.1 hr;rw[ac2] at CX;subst CX;exact(hf i (by simpa using Cm)).2
end
end
section
open Go.ChangeShapes Go.WideShapes Go.ChangeAt Go.RowKit Go.Deep
instance LL:Inhabited cL:=⟨⟨0,0,0,[],[],[],0⟩⟩
section
variable {H:Type} {enc:TypeId×Value→H} {w:World} {base:Nat} {spare:Nat→Bool} {held:Bool}
theorem Yk(bs:List Bool)(css:List (List Value))(hl:bs.length=css.length)(h:∀(i:Nat) a c,css[i]?=some c→bs[i]?=some a→c=[Value.bool a]):css.flatten=bs.map .bool:=by
 induction bs generalizing css with
 | nil=>have:css=[]:=NL hl.symm;subst this;rfl
 | cons o bs ih =>
  cases css with
  | nil=>simp at hl
  | cons c css =>
   have h0:=h 0 o c rfl rfl;rw[To,ih css (by simpa using hl) (fun i a c hc ha=>h (i+1) a c (by simpa using hc) (by simpa using ha)),h0]
   rfl
theorem open_bools{fuel:Nat}{v:Value}{x:DataW H×List MemPlace}(h:DataW.trod enc prog w base spare held fuel 35 [v]=some x):∃l:List Bool,Bools w v l∧l.length≤9223372036854775807:=by
 obtain⟨bs,css,hl,hs,hr,hm⟩:=aak (α:=Bool) underlying35 1 (by kernel_rfl) Z (fun cs b=>cs=[Value.bool b]) (fun n cs x h=>by
  obtain⟨b0,e0,_⟩:=DataW.trod_bool underlying4 h;exact⟨b0,e0⟩) h
 refine⟨bs,?_,by unfold maxLen at hm;exact hm⟩
 unfold Bools;rw[←Yk bs css hl hr];exact hs
def pC(w:World)(cs:List Value)(a:Value×cL):Prop:=cs=[.int .i64 a.2.op,.int .i64 a.2.at_,.int .i64 a.2.n,ah a.2.name,ah a.2.tO,a.1,.int .u8 (a.2.byte.toNat:Nat)]∧Bools w a.1 a.2.keep∧a.2.Wf
theorem Ox{n:Nat}{cs:List Value}{x:DataW H×List MemPlace}(h:DataW.trod enc prog w base spare held n 37 cs=some x):∃a:Value×cL,pC w cs a:=by
 have c3:prog.cellsOf 3=1:=by kernel_rfl
 have c9:prog.cellsOf 9=1:=by kernel_rfl
 have c23:prog.cellsOf 35=1:=by kernel_rfl
 have c8:prog.cellsOf 5=1:=by kernel_rfl
 have c27:prog.cellsOf 37=7:=by kernel_rfl
 obtain⟨xs,n',_,_,bL,Ac,hf⟩:=DataW.trod_struct underlying37 h;rw[c27] at bL;match cs,bL with
 | [a,b,c,d,e,f,g],_ =>
  have g0:DataW.trod enc prog w base spare held n' 3 (([a,b,c,d,e,f,g].drop 0).take (prog.cellsOf 3))=xs[0]?:=hf 0 _ rfl;rw[c3] at g0;have h0:DataW.trod enc prog w base spare held n' 3 [a]=xs[0]?:=g0;have g1:DataW.trod enc prog w base spare held n' 3 (([a,b,c,d,e,f,g].drop 1).take (prog.cellsOf 3))=xs[1]?:=hf 1 _ rfl;rw[c3] at g1;have h1:DataW.trod enc prog w base spare held n' 3 [b]=xs[1]?:=g1;have g2:DataW.trod enc prog w base spare held n' 3 (([a,b,c,d,e,f,g].drop 2).take (prog.cellsOf 3))=xs[2]?:=hf 2 _ rfl;rw[c3] at g2;have h2:DataW.trod enc prog w base spare held n' 3 [c]=xs[2]?:=g2;have g3:DataW.trod enc prog w base spare held n' 9 (([a,b,c,d,e,f,g].drop 3).take (prog.cellsOf 9))=xs[3]?:=hf 3 _ rfl;rw[c9] at g3;have h3:DataW.trod enc prog w base spare held n' 9 [d]=xs[3]?:=g3;have g4:DataW.trod enc prog w base spare held n' 9 (([a,b,c,d,e,f,g].drop 4).take (prog.cellsOf 9))=xs[4]?:=hf 4 _ rfl;rw[c9] at g4;have h4:DataW.trod enc prog w base spare held n' 9 [e]=xs[4]?:=g4;have g5:DataW.trod enc prog w base spare held n' 35 (([a,b,c,d,e,f,g].drop 5).take (prog.cellsOf 35))=xs[5]?:=hf 5 _ rfl;rw[c23] at g5;have h5:DataW.trod enc prog w base spare held n' 35 [f]=xs[5]?:=g5;have g6:DataW.trod enc prog w base spare held n' 5 (([a,b,c,d,e,f,g].drop 6).take (prog.cellsOf 5))=xs[6]?:=hf 6 _ rfl;rw[c8] at g6;have h6:DataW.trod enc prog w base spare held n' 5 [g]=xs[6]?:=g6;have mh:xs.length=7:=Ac;rw[LN U] at h0 h1 h2 h3 h4 h5 h6;obtain⟨i0,e0,_,w0⟩:=DataW.trod_int underlying3 h0;obtain⟨i1,e1,_,w1⟩:=DataW.trod_int underlying3 h1;obtain⟨i2,e2,_,w2⟩:=DataW.trod_int underlying3 h2;obtain⟨b3,e3,_,w3⟩:=DataW.trod_string underlying9 h3;obtain⟨b4,e4,_,w4⟩:=DataW.trod_string underlying9 h4;obtain⟨bs,hb,hw⟩:=open_bools h5;obtain⟨i6,e6,_,w6⟩:=DataW.trod_int underlying5 h6;cases e0;cases e1;cases e2;cases e3;cases e4;cases e6;have hb8:=bounds_u8 w6;refine⟨(f,⟨i0,i1,i2,b3.data.toList,b4.data.toList,bs,UInt8.ofNat i6.toNat⟩),?_,hb,⟨bounds_i64 w0,bounds_i64 w1,bounds_i64 w2,hw,?_,?_⟩⟩
  ·have:((UInt8.ofNat i6.toNat).toNat:Int)=i6:=by rw[aai,OS U];omega
   simp only[this]
  ·exact w3
  ·exact w4
theorem Yl(al:List (Value×cL))(css:List (List Value))(w:World)(hl:al.length=css.length)(h:∀(i:Nat) a c,css[i]?=some c→al[i]?=some a→pC w c a):css.flatten=qo (al.map (·.1)) (al.map (·.2)):=by
 induction al generalizing css with
 | nil=>have:css=[]:=NL hl.symm;subst this;rfl
 | cons o al ih =>
  cases css with
  | nil=>simp at hl
  | cons c css =>
   have h0:=(h 0 o c rfl rfl).1;rw[To,ih css (by simpa using hl) (fun i a c hc ha=>h (i+1) a c (by simpa using hc) (by simpa using ha)),h0]
   simp[qo]
theorem open_acts9{fuel:Nat}{v:Value}{x:DataW H×List MemPlace}(h:DataW.trod enc prog w base spare held fuel 22 [v]=some x):∃l:List cL,Acts9 w v l∧Acts9Wf l:=by
 obtain⟨al,css,hl,hs,hr,hm⟩:=aak (α:=Value×cL) underlying22 7 (by kernel_rfl) Z (pC w) (fun n cs x h=>Ox h) h
 refine⟨al.map (·.2),⟨al.map (·.1),κ,?_,fun i a b ha hb=>?_⟩,by unfold maxLen at hm;simpa using hm,fun a ha=>?_⟩
 ·rw[NE,←Yl al css w hl hr];exact hs
 ·rw[SR] at ha hb
  cases hi:al[i]? with
  | none=>rw[hi] at ha;cases ha
  | some y =>
   rw[hi] at ha hb;cases ha;cases hb;have Cm:=(NX.1 hi).1;exact(hr i y _ (LN U) hi).2.1
 ·obtain⟨y,hy,rfl⟩:=MD.1 ha
  obtain⟨i,hi⟩:=List.getElem?_of_mem hy;have Cm:=(NX.1 hi).1;exact(hr i y _ (LN U) hi).2.2
end
end
end Go.Proofs.YtbkahhebmpehnaaGreatDoor
