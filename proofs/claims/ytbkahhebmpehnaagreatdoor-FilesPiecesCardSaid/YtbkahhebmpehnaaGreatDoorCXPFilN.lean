/- Joined texts of one proof: what is needed of FilN, Ints9, OpenI9, Pcs9, WPieces. -/
import Derived.Test.YtbkahhebmpehnaaGreatDoorCXFilN
import Derived.Test.YtbkahhebmpehnaaGreatDoorCXWRef1a
import Derived.Test.YtbkahhebmpehnaaGreatDoorCXFilT
import Derived.Test.YtbkahhebmpehnaaGreatDoorCXWVar
import Derived.Test.YtbkahhebmpehnaaGreatDoorCXWRef8a
import Derived.Test.YtbkahhebmpehnaaGreatDoorCXTabs7
set_option linter.all false
set_option maxRecDepth 100000
set_option maxHeartbeats 8000000
namespace Go.Proofs.YtbkahhebmpehnaaGreatDoor
open Go.Proofs.Tryz
section
def jF:Bytes:=[111,119,110]
section
variable {k n:Nat} {φ:FsL} {C:Nat→Bytes}
end
end
section
open Go.RowKit
theorem wrap_u8(x:Int):∃cc:UInt8,x%256=(cc.toNat:Nat):=by
 refine⟨UInt8.ofNat (x%256).toNat,?_⟩;rw[aai];omega
def IntsWf(l:List Int):Prop:=l.length≤9223372036854775807∧∀x∈l,-9223372036854775808≤x∧x≤9223372036854775807
end
section
open Go.ChangeShapes Go.WideShapes Go.ChangeAt Go.RowKit Go.Deep
section
variable {H:Type} {enc:TypeId×Value→H} {w:World} {base:Nat} {spare:Nat→Bool} {held:Bool}
theorem rj(bs:List Int)(css:List (List Value))(hl:bs.length=css.length)(h:∀(i:Nat) a c,css[i]?=some c→bs[i]?=some a→c=[Value.int .i64 a] ∧ -9223372036854775808≤a∧a≤9223372036854775807):css.flatten=bs.map (.int .i64)∧∀x∈bs,-9223372036854775808≤x∧x≤9223372036854775807:=by
 induction bs generalizing css with
 | nil=>have:css=[]:=NL hl.symm;subst this;exact⟨rfl,fun x hx=>by simp at hx⟩
 | cons o bs ih =>
  cases css with
  | nil=>simp at hl
  | cons c css =>
   obtain⟨h0,h1⟩:=h 0 o c rfl rfl;obtain⟨i1,i2⟩:=ih css (by simpa using hl) (fun i a c hc ha=>h (i+1) a c (by simpa using hc) (by simpa using ha))
   refine⟨by rw[To,i1,h0];rfl,fun x hx=>?_⟩
   rcases MA.1 hx with rfl|hx
   ·exact h1
   ·exact i2 x hx
theorem open_ints{fuel:Nat}{v:Value}{x:DataW H×List MemPlace}(h:DataW.trod enc prog w base spare held fuel 51 [v]=some x):∃l:List Int,Ints9 w v l∧IntsWf l:=by
 obtain⟨bs,css,hl,hs,hr,hm⟩:=aak (α:=Int) underlying51 1 (by kernel_rfl) Z (fun cs b=>cs=[Value.int .i64 b] ∧ -9223372036854775808≤b∧b≤9223372036854775807) (fun n cs x h=>by
  obtain⟨b0,e0,_,w0⟩:=DataW.trod_int underlying3 h;exact⟨b0,e0,bounds_i64 w0⟩) h
 obtain⟨f1,f2⟩:=rj bs css hl hr;refine⟨bs,?_,by unfold maxLen at hm;exact hm,f2⟩
 unfold Ints9;rw[←f1];exact hs
end
end
section
theorem aal:iM jF=true:=Z
def jb(k:Nat)(φ:FsL):Prop:=∃C,cS (k+1) 140 φ C∧isF φ.l jF=false
def fR(k:Nat)(φ:FsL)(t:Bytes):Prop:=∃C,cS (k+2) 140 φ C∧Has jF false t φ C
section
variable {k:Nat} {φ:FsL} {t:Bytes}
theorem jb.step(h:jb k φ)(kW:k≤1000)(a:cL)(hk:a.k<9)(h1:a.name≠jF)(h2:a.tO≠jF):jb (k+1) (fJ a φ).1:=by
 obtain⟨C,hg,hh⟩:=h;obtain⟨D,g1,g2,_⟩:=hg.cq U a hk;refine⟨D,g1,ab5.2 fun hc=>?_⟩
 obtain⟨⟨fr,hi⟩,_⟩:=hg;obtain⟨⟨fr',hj⟩,_⟩:=g1;obtain⟨f,hf,e⟩:=(IC hj.good.ok.rise _).1 hc;have:=(IC hi.good.ok.rise jF).2 ⟨f,g2.back f hf (by rw[e];exact Z3 h1) (fun _=>by rw[e];exact Z3 h2),e⟩
 rw[hh] at this;exact absurd this Z
theorem jb.more(h:jb k φ):jb (k+1) φ:=h.imp fun _ h=>⟨h.1.more,h.2⟩
theorem jb.create(h:jb k φ)(kW:k≤1000):(φ.create jF).2=6∨(φ.create jF).2=9∨(φ.create jF).2=0∧fR k (φ.create jF).1 []:=by
 obtain⟨C,hg,hh⟩:=h;obtain⟨⟨fr,hi⟩,hf,hn⟩:=hg;unfold FsL.create;rw[hi.live,η Z,η (by rw[aal];decide),η (by rw[hh];decide)]
 by_cases c3:φ.l.length=64
 ·rw[Φ c3];exact .inl rfl
 ·rw[η c3]
  rcases kw hi hf hn (La hi U jF aal hh (by have:=hi.good.ok.few;omega)) with ⟨r0,D,r1,r2,r3⟩|⟨r0,_⟩
  ·refine .inr (.inr ⟨r0,D,r1,⟨jF,false,0,[]⟩,?_,rfl,rfl,?_⟩)
   ·rw[r2];exact(wh _ _).mem_iff.2 (Mu ..)
   ·exact R0
  ·exact .inr (.inl r0)
theorem fR.more(h:fR k φ t):fR (k+1) φ t:=h.imp fun _ h=>⟨h.1.more,h.2⟩
theorem fR.step(h:fR k φ t)(kW:k≤1000)(a:cL)(hk:a.k<9)(h1:a.name≠jF)(h2:a.tO≠jF):fR (k+1) (fJ a φ).1 t:=by
 obtain⟨C,hg,hh⟩:=h;obtain⟨D,g1,g2,_⟩:=hg.cq U a hk;exact⟨D,g1,hh.kept g2 h1 (fun _=>h2)⟩
theorem fR.append(h:fR k φ t)(kW:k≤1000)(d:Bytes):fR (k+1) (φ.append jF d).1 (if (φ.append jF d).2=0 then t++d else t)∧(d.length≤6000→t.length≤1000000→(φ.append jF d).2=0∨(φ.append jF d).2=9):=by
 obtain⟨C,hg,hh⟩:=h;obtain⟨D,g1,_,g3,g4,_⟩:=Has.append hg U hh d;exact⟨⟨D,g1,g3⟩,fun h1 h2=>g4 h1 U⟩
theorem fR.read(h:fR k φ t)(a m:Nat)(ha:a≤t.length):φ.cC jF a m=((t.drop a).take m,0):=by
 obtain⟨C,hg,hh⟩:=h;exact hh.read hg a m U U U
theorem fR.size(h:fR k φ t):∀f∈φ.l,f.name=jF→f.size=t.length:=fun f hf e=>by
 obtain⟨C,hg,hh⟩:=h
 obtain⟨_,_,_,_,e5⟩:=Has.isF hg hh
 obtain⟨⟨fr,hi⟩,_⟩:=hg
 rw[←e5,←e,(hi.at_eq hf).2]
end
end
section
open Go.RowKit
theorem Pieces_walk(v:Value)(l:List cL)(sv:Value)(ns:List Int)(c:Int)(w:World)(hv:Acts9 w v l)(hv2:Ints9 w sv ns)(hl:Acts9Wf l)(fF:IntsWf ns)(hc:0≤c∧c≤255):
  Calls prog 4 #[v,sv,.int .u8 c] w fun e w'=>e=.returned (.bool true)∧Below w.heap.size w w':=by
 have Ee:=fun (W:World)=>Yj W
 have CO:=fun (W:World) (q:Q w W)=>XL v l W (hv.stays q) hl
 have lF:=fun (W:World)=>Yi W 64 Z
 obtain⟨C0,xQ⟩:=aae 140 Z Z;have sK:jb 0 (st9 140):=⟨C0,xQ.1,by rw[xQ.2];rfl⟩
 have e64:((64:Nat):Int)=64:=rfl;rw[e64] at lF;obtain⟨va,vc,rfl,aP⟩:=hv.value;obtain⟨sa,sc,rfl,ab2⟩:=hv2.value;have TU:=hl.2;have agt:=fF.2;have HSH:=Hd Ee;have TI:=Hd CO;have HBG:=Hd lF;have xW:=Hd aP;have HWF:=Hd TU;have HG0:=Hd sK;have aj7:=Hd ab2;have aj8:=Hd agt;have uX:=hl.1;have anR:=fF.1;clear Ee CO lF aP TU hv hl xQ sK ab2 agt hv2 fF;generalize st9 140=s0 at *;go_enter func4,ntmps4;go_wp2_with fail;refine(HSH.out _).mono ?_;rintro e w1 ⟨rfl,q1⟩;have Q1:=Hd q1;clear q1;go_wp2_with fail;refine(TI.out _ Q1.out).mono ?_;rintro e w2 ⟨rfl,rfl⟩;cases vk:wD l with
 | false =>
  go_wp2_with fail;go_ret;exact⟨rfl,Q1.out⟩
 | true =>
  obtain⟨anf,sM⟩:=aad vk;have HKE:=Hd sM;clear vk sM TI;by_cases anS:(20:Int)<(ns.length:Int)
  ·go_wp2_with fail
   go_ret;exact⟨rfl,Q1.out⟩
  go_wp2_with fail;refine(HBG.out _).mono ?_;rintro e w3 ⟨wb,fb,b,mb,rfl,h3⟩;have S0:Hid (WW w1 w3 wb fb b s0 (12+3000000000*0)):=Hd h3;clear h3 HBG HSH;go_wp2_with fail;go_loopw [12] (fun i wr=>∃(k:Nat) (φ:FsL),i=.int .i64 (k:Nat)∧k≤l.length∧Hid (WW w1 wr wb fb b φ (12+3000000000*k))∧Hid (jb k φ)) (fun i _=>l.length-(intOf i).toNat)
  case atStart=>exact⟨0,s0,rfl,L0 _,S0,HG0⟩
  case round =>
   obtain⟨k,φ,rfl,hk,HW,HG⟩:=hrel;by_cases ay:k<l.length
   ·have bq:(k:Int)<(l.length:Int):=U
    have lT:(0:Int)≤(k:Int):=U;obtain⟨g,off,rfl,hc⟩:=xW.out U;obtain⟨kv,x0,x1,x2,x3,x4,x5,x6,VR⟩:=hc k ay;obtain⟨ka,kc,rfl⟩:=VR.len;have FM:=Q1.out.trans HW.out.q;have Cz:=HWF.out _ (LO ay);have qO:=HKE.out _ (LO ay);generalize l[k]=a at *;replace x0:=aj FM x0;replace x1:=aj FM x1;replace x2:=aj FM x2;replace x3:=aj FM x3;replace x4:=aj FM x4;replace x5:=aj FM x5;replace x6:=aj FM x6;have fV:=fun (W:World)=>Ch a.op 11 W Cz.op.1 Cz.op.2 Z Z
    obtain⟨C,hg,_⟩:=HG.out;have jV:=fun (h9:a.k<9)=>XO w1 wr wr wb fb b φ _ HW.out (Q.refl wr) (hg.ok U) U ka a.keep.length kc a Cz ⟨U,U⟩ 64 h9
    have aC:=fun (h9:a.k<9)=>HG.out.step U a h9
    have kY:=Hd fV;have xP:=Hd jV;have aX:=Hd aC;clear hc VR FM qO fV jV aC Cz hg;unfold lj at xP;have iN:a.k=lC a.op 11:=rfl;rw[iN] at xP aX;clear iN;have HY:=Hd (HW.out.mono (show 12+3000000000*k≤12+3000000000*(k+1) by omega))
    have HD1:=Hd HG.out.more;generalize lC a.op 11=pz at *;have pQ:(¬(pz:Int)<9)∨(pz:Int)<9∧(a.name=jF∨((a.name==[111,119,110])=false∧a.name≠jF)∧(a.tO=jF∨((a.tO==[111,119,110])=false∧a.tO≠jF))):=by
     by_cases h9:(pz:Int)<9
     ·refine .inr ⟨h9,?_⟩
      by_cases h1:a.name=jF
      ·exact .inl h1
      ·refine .inr ⟨⟨SZ h1,h1⟩,?_⟩
       by_cases h2:a.tO=jF
       ·exact .inl h2
       ·exact .inr ⟨SZ h2,h2⟩
     ·exact .inl h9
    go_wp2_with fail;refine(kY.out _).mono ?_;rintro e w8 ⟨rfl,rfl⟩;rcases pQ with h9|⟨h9,hn|⟨⟨hn,kV⟩,ht|⟨ht,zG⟩⟩⟩
    ·go_wp2_with fail
     go_roundw;case rel=>exact⟨k+1,φ,by go_num,U,HY,HD1⟩
     case measure=>simp[intOf];omega
    ·rw[hn] at x3
     unfold jF at x3;go_wp2_with fail;go_roundw;case rel=>exact⟨k+1,φ,by go_num,U,HY,HD1⟩
     case measure=>simp[intOf];omega
    ·rw[ht] at x4
     unfold jF at x4;go_wp2_with fail;go_roundw;case rel=>exact⟨k+1,φ,by go_num,U,HY,HD1⟩
     case measure=>simp[intOf];omega
    ·have HD:=Hd (xP.out U);have tY:=Hd (aX.out U kV zG)
     clear xP aX HY HD1;generalize fJ a φ=dd at *;generalize zi a φ=tx at *;go_wp2_with fail;refine HD.out.mono ?_;rintro e w9 ⟨rfl,h9',t9⟩;have HZ:=Hd (h9'.mono (show 12+3000000000*k+3000000000≤12+3000000000*(k+1) by omega))
     clear h9' t9 HD;go_wp2_with fail;go_roundw;case rel=>exact⟨k+1,_,by go_num,U,HZ,tY⟩
     case measure=>simp[intOf];omega
   ·obtain rfl:k=l.length:=U
    have bq:¬(l.length:Int)<(l.length:Int):=U;obtain⟨C,hg,_⟩:=HG.out;have nU:=HG.out.create U;obtain⟨φ1,ec,e1⟩:∃φ1 ec,φ.create jF=(φ1,ec):=⟨_,_,rfl⟩;have k1:=HW.out.lift (HW.out.1.create (hg.ok U) U jF Z e1);rw[e1] at nU;simp only[] at nU;unfold jF at k1;have c1:=HW.out.cells.2;have K1:=Hd k1;clear k1 hg e1 HG xW HWF HKE;go_wp2_with fail;refine K1.out.mono ?_;rintro e w8 ⟨rfl,h8⟩;have S8:=Hd h8;clear h8 K1 HW c1;rcases nU with rfl|rfl|⟨rfl,ZN⟩
    ·go_wp2_with fail
     go_ret;exact⟨rfl,Q1.out.trans S8.out.q⟩
    ·go_wp2_with fail
     go_ret;exact⟨rfl,Q1.out.trans S8.out.q⟩
    ·have W0:=Hd ZN
     have S9:Hid (WW w1 w8 wb fb b φ1 (200000000000+3000000000*0)):=Hd (S8.out.mono U);clear ZN S8;go_wp2_with fail;go_loopw [14,15] (fun s i wr=>∃(k:Nat) (φ:FsL) (t:Bytes),i=.int .i64 (k:Nat)∧k≤ns.length∧s=ah t∧t.length≤700*k∧Hid (WW w1 wr wb fb b φ (200000000000+3000000000*k))∧Hid (fR (l.length+k) φ t)) (fun _ i _=>ns.length-(intOf i).toNat)
     case atStart=>exact⟨0,φ1,[],rfl,L0 _,rfl,L0 _,S9,W0⟩
     case round =>
      obtain⟨k,φ,t,rfl,hk,rfl,nS,HW,HO⟩:=hrel;by_cases ay:k<ns.length
      ·have bq:(k:Int)<(ns.length:Int):=U
       have lT:(0:Int)≤(k:Int):=U;obtain⟨g,off,rfl,bL⟩:=aj7.out U;have x0:=aj (Q1.out.trans HW.out.q) (bL k ay);have Cz:=aj8.out _ (LO ay);generalize ns[k]=nk at *;have fV:=fun (W:World)=>Ch nk 700 W Cz.1 Cz.2 Z Z
       have bW:=Ev nk 700 Z;have Ed:=fun (cc:UInt8) (W:World)=>Ci cc (lC nk 700) W U
       obtain⟨C,hg,_⟩:=HO.out;have hI:=hg.ok U;have uV:=fun d=>HO.out.append U d
       have Bp:=fun (d:Bytes) (W:World) (h:WW w1 W wb fb b φ (200000000000+3000000000*k)) (hd:d.length≤7000)=>h.lift (h.1.append hI U jF d hd (wC rfl))
       obtain⟨cc,kR⟩:∃cc:UInt8,(c+(k:Int))%256=(cc.toNat:Nat):=wrap_u8 _;have JD:=Hd (uV (List.replicate (lC nk 700) cc));have VY:=Hd (Bp (List.replicate (lC nk 700) cc));have kY:=Hd fV;have Wj:=Hd (Ed cc);clear Bp uV fV Ed hI hg Cz bL HO;have gV:(List.replicate (lC nk 700) cc).length≤700:=by rw[Nx];omega
       unfold jF at VY;generalize List.replicate (lC nk 700) cc=d at *;generalize lC nk 700=pn at *;go_wp2_with fail;refine(kY.out _).mono ?_;rintro e w9 ⟨rfl,rfl⟩;go_wp2_with fail;refine(Wj.out _).mono ?_;rintro e w9 ⟨rfl,q9⟩;have S1:=Hd (HW.out.keep q9);have c1:=S1.out.cells.2;clear q9 Wj kY kR x0;go_wp2_with fail;refine(VY.out _ S1.out U).mono ?_;rintro e w10 ⟨rfl,RH⟩;obtain⟨ha1,ha2⟩:=JD.out;have hz:=ha2 U U;have HZ:=Hd (RH.mono (show 200000000000+3000000000*k+3000000000≤200000000000+3000000000*(k+1) by omega))
       have HA1:=Hd ha1;clear RH VY JD ha1 ha2 S1 c1 HW;rcases hz with hz|hz
       ·have ha:=HA1.out
        unfold jF at ha hz;rw[Φ hz] at ha;have HA2:=Hd ha;have bX:t.length+d.length≤9223372036854775807:=U;rw[hz];clear ha HA1;go_wp2_with fail;go_roundw;case rel=>exact⟨k+1,_,t++d,by go_num,U,by rw[bytes_append],by rw[Δ];omega,HZ,HA2⟩
        case measure=>simp[intOf];omega
       ·have ha:=HA1.out
        unfold jF at ha hz;rw[η (by rw[hz];decide)] at ha
        have HA2:=Hd ha;rw[hz];clear ha HA1;go_wp2_with fail;go_roundw;case rel=>exact⟨k+1,_,t,by go_num,U,rfl,U,HZ,HA2⟩
        case measure=>simp[intOf];omega
      ·obtain rfl:k=ns.length:=U
       have bq:¬(ns.length:Int)<(ns.length:Int):=U;obtain⟨C,hg,_⟩:=HO.out;have hI:=hg.ok U;have hd:φ.st.dead=false:=by obtain⟨⟨fr,hi⟩,_⟩:=hg;exact hi.live
       have dz:=HO.out.read 0 (t.length+5) (L0 _);rw[QQ,Mp U,show((0:Nat):Int)=0 from rfl,show((t.length+5:Nat):Int)=(t.length:Int)+5 by omega] at dz
       have k1:=HW.out.lift (HW.out.1.cC hI U jF 0 ((t.length:Int)+5) U dz);have k2:=fun (W:World) K (h:WW w1 W wb fb b φ K)=>h.1.list hI hd
       have k3:=fun (W:World) K (h:WW w1 W wb fb b φ K)=>h.1.whole hg U
       have bP:=HO.out.size;have e5:IntKind.i64.wrap ((t.length:Int)+5)=(t.length:Int)+5:=IntWalk.i64_in _ U;have JF:(t==t)=true:=V0 t;have fT:φ.l.length≤64:=by obtain⟨⟨fr,hi⟩,_⟩:=hg;exact hi.good.ok.few
       have c1:=HW.out.cells.2;have K1:=Hd k1;have K2:=Hd k2;have K3:=Hd k3;have mD:=Hd bP;unfold jF at K1 mD;clear k1 k2 k3 bP hg hI hd dz HO;generalize φ.l=fl at *;go_wp2_with fail;refine K1.out.mono ?_;rintro e w9 ⟨rfl,h9⟩;replace c1:=h9.cells.2;have S1:=Hd h9;clear h9 HW K1;go_wp2_with fail;refine(K2.out _ _ S1.out).mono ?_;rintro e w10 ⟨la,lc,rfl,q10,P',_,_,hli⟩;have S2:=Hd (S1.out.keep q10);replace c1:=S2.out.cells.2;have HLI:=Hd hli;clear hli q10 S1 K2;go_wp2_with fail;go_loopw [22] (fun i wr=>∃j:Nat,i=.int .i64 (j:Nat)∧j≤fl.length∧wr=w10) (fun i _=>fl.length-(intOf i).toNat)
       case atStart=>exact⟨0,rfl,L0 _,rfl⟩
       case round =>
        obtain⟨j,rfl,hj,rfl⟩:=hrel;by_cases ay:j<fl.length
        ·have bq:(j:Int)<(fl.length:Int):=U
         have lT:(0:Int)≤(j:Int):=U;obtain⟨g,rfl,_,hc⟩:=HLI.out U;obtain⟨x0,_,x2⟩:=hc j ay;have bP:=mD.out _ (LO ay);clear hc;generalize fl[j]=f at *;by_cases hn:f.name=[111,119,110]
         ·rw[bP hn] at x2
          rw[hn] at x0;go_wp2_with fail;go_roundw;case rel=>exact⟨j+1,by go_num,U,trivial⟩
          case measure=>simp[intOf];omega
         ·have pX:(f.name==[111,119,110])=false:=SZ hn
          go_wp2_with fail;go_roundw;case rel=>exact⟨j+1,by go_num,U,trivial⟩
          case measure=>simp[intOf];omega
        ·obtain rfl:j=fl.length:=U
         have bq:¬(fl.length:Int)<(fl.length:Int):=U;go_wp2_with fail;refine(K3.out _ _ S2.out).mono ?_;rintro e w11 ⟨rfl,q11⟩;go_wp2_with fail;go_ret;exact⟨rfl,Q1.out.trans (S2.out.q.trans q11)⟩
end
end Go.Proofs.YtbkahhebmpehnaaGreatDoor
