/- Joined texts of one proof: what is needed of FilN, Pcs9, WRead9. -/
import Derived.Test.YtbkahhebmpehnaaGreatDoorCXFilN
import Derived.Test.YtbkahhebmpehnaaGreatDoorCXFilT
import Derived.Test.YtbkahhebmpehnaaGreatDoorCXTabs7
set_option linter.all false
set_option maxRecDepth 100000
set_option maxHeartbeats 8000000
namespace Go.Proofs.YtbkahhebmpehnaaGreatDoor
open Go.Proofs.Tryz
section
def jF:Bytes:=[111,119,110]
section
variable {k n:Nat} {φ:FsL} {C:Nat→Bytes}
end
end
section
theorem aal:iM jF=true:=Z
def jb(k:Nat)(φ:FsL):Prop:=∃C,cS (k+1) 140 φ C∧isF φ.l jF=false
def fR(k:Nat)(φ:FsL)(t:Bytes):Prop:=∃C,cS (k+2) 140 φ C∧Has jF false t φ C
section
variable {k:Nat} {φ:FsL} {t:Bytes}
theorem jb.step(h:jb k φ)(kW:k≤1000)(a:cL)(hk:a.k<9)(h1:a.name≠jF)(h2:a.tO≠jF):jb (k+1) (fJ a φ).1:=by
 obtain⟨C,hg,hh⟩:=h;obtain⟨D,g1,g2,_⟩:=hg.cq U a hk;refine⟨D,g1,ab5.2 fun hc=>?_⟩
 obtain⟨⟨fr,hi⟩,_⟩:=hg;obtain⟨⟨fr',hj⟩,_⟩:=g1;obtain⟨f,hf,e⟩:=(IC hj.good.ok.rise _).1 hc;have:=(IC hi.good.ok.rise jF).2 ⟨f,g2.back f hf (by rw[e];exact Z3 h1) (fun _=>by rw[e];exact Z3 h2),e⟩
 rw[hh] at this;exact absurd this Z
theorem jb.more(h:jb k φ):jb (k+1) φ:=h.imp fun _ h=>⟨h.1.more,h.2⟩
theorem jb.create(h:jb k φ)(kW:k≤1000):(φ.create jF).2=6∨(φ.create jF).2=9∨(φ.create jF).2=0∧fR k (φ.create jF).1 []:=by
 obtain⟨C,hg,hh⟩:=h;obtain⟨⟨fr,hi⟩,hf,hn⟩:=hg;unfold FsL.create;rw[hi.live,η Z,η (by rw[aal];decide),η (by rw[hh];decide)]
 by_cases c3:φ.l.length=64
 ·rw[Φ c3];exact .inl rfl
 ·rw[η c3]
  rcases kw hi hf hn (La hi U jF aal hh (by have:=hi.good.ok.few;omega)) with ⟨r0,D,r1,r2,r3⟩|⟨r0,_⟩
  ·refine .inr (.inr ⟨r0,D,r1,⟨jF,false,0,[]⟩,?_,rfl,rfl,?_⟩)
   ·rw[r2];exact(wh _ _).mem_iff.2 (Mu ..)
   ·exact R0
  ·exact .inr (.inl r0)
theorem fR.more(h:fR k φ t):fR (k+1) φ t:=h.imp fun _ h=>⟨h.1.more,h.2⟩
theorem fR.step(h:fR k φ t)(kW:k≤1000)(a:cL)(hk:a.k<9)(h1:a.name≠jF)(h2:a.tO≠jF):fR (k+1) (fJ a φ).1 t:=by
 obtain⟨C,hg,hh⟩:=h;obtain⟨D,g1,g2,_⟩:=hg.cq U a hk;exact⟨D,g1,hh.kept g2 h1 (fun _=>h2)⟩
theorem fR.append(h:fR k φ t)(kW:k≤1000)(d:Bytes):fR (k+1) (φ.append jF d).1 (if (φ.append jF d).2=0 then t++d else t)∧(d.length≤6000→t.length≤1000000→(φ.append jF d).2=0∨(φ.append jF d).2=9):=by
 obtain⟨C,hg,hh⟩:=h;obtain⟨D,g1,_,g3,g4,_⟩:=Has.append hg U hh d;exact⟨⟨D,g1,g3⟩,fun h1 h2=>g4 h1 U⟩
theorem fR.read(h:fR k φ t)(a m:Nat)(ha:a≤t.length):φ.cC jF a m=((t.drop a).take m,0):=by
 obtain⟨C,hg,hh⟩:=h;exact hh.read hg a m U U U
theorem fR.size(h:fR k φ t):∀f∈φ.l,f.name=jF→f.size=t.length:=fun f hf e=>by
 obtain⟨C,hg,hh⟩:=h
 obtain⟨_,_,_,_,e5⟩:=Has.isF hg hh
 obtain⟨⟨fr,hi⟩,_⟩:=hg
 rw[←e5,←e,(hi.at_eq hf).2]
end
end
section
open Go.RowKit
theorem WW.app{w0 w wx:World}{wb fb b:Nat}{φ:FsL}{K:Nat}(h:WW w0 w wb fb b φ K)(qx:Q w wx)(hI:FOk φ)(hK:K≤900000000000000000)(s d:Bytes)(hd:d.length≤7000):
  Calls prog 11 #[au fb,ah s,ah d] wx fun e w'=>e=.returned (.int .i64 (φ.append s d).2)∧WW w0 w' wb fb b (φ.append s d).1 (K+3000000000)∧ae (fun k=>k<w.heap.size) wx w':=by
 obtain⟨F,sb,v,hg,ay,rV,bL⟩:=h.next qx;exact(Jj wx F fb sb b φ K v s d hg hI U U).mono fun e w' hx=>⟨hx.1,(bL wx w' _ _ (Q.refl wx) hx.2).1.mono U,(bL wx w' _ _ (Q.refl wx) hx.2).2.mono ay⟩
theorem WW.used{w0 w wx:World}{wb fb b:Nat}{φ:FsL}{K:Nat}(h:WW w0 w wb fb b φ K)(q:Q w wx)(hI:FOk φ)(hd:φ.st.dead=false):(Calls prog 17 #[au fb] wx fun e w'=>e=.returned (.int .i64 (φ.used:Nat))∧Q wx w')∧(Calls prog 18 #[au fb] wx fun e w'=>e=.returned (.int .i64 (φ.free:Nat))∧Q wx w'):=by
 obtain⟨F,sb,v,h1,h2,h3,h4⟩:=h.1.next q;obtain⟨_,KI,fr,C,hi,gM⟩:=hI.resolve_left (by rw[hd];simp)
 have hc:=hi.count;have hr:=hi.good.room;exact⟨N9 wx F fb sb b φ K v h1 (hi.st.num U) (by have:=hc.2;unfold FsL.free at this;omega),aam wx F fb sb b φ K v h1 (hi.st.num U)⟩
theorem abh(l:List ax)(k:Nat)(h:k<l.length):jj (l.take (k+1))=jj (l.take k)+cB l[k].size:=by
 unfold jj;rw[Mb h,N5,List.sum_append];simp
theorem Read9_walk(v:Value)(l:List cL)(at_ n:Int)(w:World)(hv:Acts9 w v l)(hl:Acts9Wf l)(ha0 : -9223372036854775808≤at_)(ha1:at_≤9223372036854775807)(xQ : -9223372036854775808≤n)(qM:n≤9223372036854775807):
  Calls prog 3 #[v,.int .i64 at_,.int .i64 n] w fun e w'=>e=.returned (.bool true)∧Below w.heap.size w w':=by
 have Ee:=fun (W:World)=>Yj W
 have CO:=fun (W:World) (q:Q w W)=>XL v l W (hv.stays q) hl
 have lF:=fun (W:World)=>Yi W 70 Z
 have iq:=fun (W:World)=>Ch n 3000 W xQ qM Z Z
 have D8:=fun (j:Nat) (W:World) (h:0<j) (h2:j≤1000000)=>Ch at_ j W ha0 ha1 h h2
 obtain⟨C0,h0⟩:=aae 140 Z Z;obtain⟨a0,C1,h1⟩:=h0.create (s:=jF) Z aal;have sK:fR 0 ((st9 140).create jF).1 []:=⟨C1,h1.1,h1.has⟩;have i0:=h0.1.ok Z;have k1:=fun (W w0:World) wb fb b K (h:WW w0 W wb fb b (st9 140) K) (hK:K≤900000000000000000)=>h.lift (h.1.create i0 hK jF Z (wC a0))
 have e70:((70:Nat):Int)=70:=rfl;have e3000:((3000:Nat):Int)=3000:=rfl;rw[e70] at lF;rw[e3000] at iq;unfold jF at k1 sK;obtain⟨va,vc,rfl,aP⟩:=hv.value;have TU:=hl.2;have HSH:=Hd Ee;have TI:=Hd CO;have HBG:=Hd lF;have xW:=Hd aP;have HWF:=Hd TU;have HG0:=Hd sK;have HP1:=Hd D8;have kX:=Hd iq;have K1:=Hd k1;have uX:=hl.1;have ae7:=Ev n 3000 Z;have agu:=fun j (h:0<j)=>Ev at_ j h
 clear Ee CO lF aP TU hv hl sK D8 iq k1 a0 h0 h1 i0;generalize ((st9 140).create [111,119,110]).1=s1 at *;generalize st9 140=s0 at *;go_enter func3,ntmps3;go_wp2_with fail;refine(HSH.out _).mono ?_;rintro e w1 ⟨rfl,q1⟩;have Q1:=Hd q1;clear q1;go_wp2_with fail;refine(TI.out _ Q1.out).mono ?_;rintro e w2 ⟨rfl,rfl⟩;cases vk:wD l with
 | false =>
  go_wp2_with fail;go_ret;exact⟨rfl,Q1.out⟩
 | true =>
  obtain⟨anf,sM⟩:=aad vk;have HKE:=Hd sM;clear vk sM TI;go_wp2_with fail;refine(HBG.out _).mono ?_;rintro e w3 ⟨wb,fb,b,mb,rfl,h3⟩;have S0:=Hd h3;have c1:=h3.cells.2;clear h3 HBG HSH;go_wp2_with fail;refine(K1.out _ _ _ _ _ _ S0.out Z).mono ?_;rintro e w4 ⟨rfl,h4⟩;have S1:Hid (WW w1 w4 wb fb b s1 (3000000012+3000000000*0)):=Hd h4;clear h4 S0 K1 c1;go_wp2_with fail;go_loopw [12,13] (fun s i wr=>∃(k:Nat) (φ:FsL) (t:Bytes),i=.int .i64 (k:Nat)∧k≤l.length∧s=ah t∧t.length≤6002*k∧Hid (WW w1 wr wb fb b φ (3000000012+3000000000*k))∧Hid (fR k φ t)) (fun _ i _=>l.length-(intOf i).toNat)
  case atStart=>exact⟨0,s1,[],rfl,L0 _,rfl,L0 _,S1,HG0⟩
  case round =>
   obtain⟨k,φ,t,rfl,hk,rfl,nS,HW,HG⟩:=hrel;by_cases ay:k<l.length
   ·have bq:(k:Int)<(l.length:Int):=U
    have lT:(0:Int)≤(k:Int):=U;obtain⟨g,off,rfl,hc⟩:=xW.out U;obtain⟨kv,x0,x1,x2,x3,x4,x5,x6,VR⟩:=hc k ay;obtain⟨ka,kc,rfl⟩:=VR.len;have FM:=Q1.out.trans HW.out.q;have Cz:=HWF.out _ (LO ay);have qO:=HKE.out _ (LO ay);generalize l[k]=a at *;replace x0:=aj FM x0;replace x1:=aj FM x1;replace x2:=aj FM x2;replace x3:=aj FM x3;replace x4:=aj FM x4;replace x5:=aj FM x5;replace x6:=aj FM x6;obtain⟨wx,BG⟩:∃wx,wx=wr.alloc (.cells #[.int .i64 a.op,.int .i64 a.at_,.int .i64 a.n,ah a.name,ah a.tO,.slice ka a.keep.length kc,.int .u8 (a.byte.toNat:Nat)] 37):=⟨_,rfl⟩;have qx:Q wr wx:=by rw[BG];exact Q.alloc _ _
    have bZ:Blk wx wr.heap.size 37 #[.int .i64 a.op,.int .i64 a.at_,.int .i64 a.n,ah a.name,ah a.tO,.slice ka a.keep.length kc,.int .u8 (a.byte.toNat:Nat)]:=by rw[BG];exact Blk.new wr _ _
    have HX:=Hd (HW.out.keep qx);have fV:=fun (W:World)=>Ch a.op 11 W Cz.op.1 Cz.op.2 Z Z
    obtain⟨C,hg,_⟩:=HG.out;have hI:=hg.ok U;have jV:=fun (h9:a.k<9)=>XO w1 wr wx wb fb b φ _ HW.out qx hI U ka a.keep.length kc a Cz ⟨U,U⟩ 70 h9
    have aC:=fun (h9:a.k<9)=>HG.out.step U a h9
    have iG:∀W,Calls prog 12 #[.agg #[.int .i64 a.op,.int .i64 a.at_,.int .i64 a.n,ah a.name,ah a.tO,.slice ka a.keep.length kc,.int .u8 (a.byte.toNat:Nat)]] W fun e w'=>e=.returned (ah a.data)∧Q W w':=fun W=>abf ka a.keep.length kc a W Cz
    have gV:=a.nd;have Bp:=fun (W:World) (q:Q wx W)=>(HW.out.app (qx.trans q) hI U jF a.data U).mono fun e w' hx=>And.intro hx.1 (And.intro hx.2.1 (hx.2.2.blk (bZ.stays q) (TE _)))
    obtain⟨uV,_⟩:=HG.out.append U a.data;have Vv:=HG.out.more;obtain⟨y0,y1,y2,y3,y4,y5,y6⟩:=bZ.c7;unfold jF at Bp uV;have ou:=Hd bZ;have kY:=Hd fV;have xP:=Hd jV;have aX:=Hd aC;have HMO:=Hd Vv;have rJ:=Hd iG;have VY:=Hd Bp;have JD:=Hd uV;have HXM:=Hd (HX.out.mono (show 3000000012+3000000000*k≤3000000012+3000000000*(k+1) by omega))
    have pU:=Cz.at_;clear hc VR FM qO fV jV aC Vv bZ qx hg hI Cz iG Bp uV HW HG;unfold lj at xP;have iN:a.k=lC a.op 11:=rfl;rw[iN] at xP aX;clear iN;generalize lC a.op 11=pz at *;go_upto_region 13 with fail;rw[←BG];clear BG x0 x1 x2 x3 x4 x5 x6;go_wp2_with fail;refine(kY.out _).mono ?_;rintro e w8 ⟨rfl,rfl⟩;have c1:=HX.out.cells.2;have gX:a.data.length≤6002:=gV;clear gV;generalize fJ a φ=dd at *;generalize zi a φ=tx at *;generalize a.data=dt at *;have pQ:((1:Int)≤(pz:Int)∧(pz:Int)≤4∧a.at_.tmod 2=0)∨((¬(1:Int)≤(pz:Int))∨((1:Int)≤(pz:Int)∧¬(pz:Int)≤4)∨((1:Int)≤(pz:Int)∧(pz:Int)≤4∧¬a.at_.tmod 2=0)):=U;have rel:∀(wz:World) (ψ:FsL) (u:Bytes) (j:Int),j=((k+1:Nat):Int)→u.length≤6002*(k+1)→Hid (WW w1 wz wb fb b ψ (3000000012+3000000000*(k+1)))→Hid (fR (k+1) ψ u)→∃(k':Nat) (φ':FsL) (t':Bytes),Value.int .i64 j=.int .i64 (k':Nat)∧k'≤l.length∧ah u=ah t'∧t'.length≤6002*k'∧Hid (WW w1 wz wb fb b φ' (3000000012+3000000000*k'))∧Hid (fR k' φ' t'):=fun wz ψ u j hj hu h1 h2=>⟨k+1,ψ,u,by rw[hj],U,rfl,hu,h1,h2⟩
    have Un:=Hd rel;have Mc:l.length-(k+1)<l.length-k:=U;clear rel;rcases pQ with ⟨h1i,h4i,h2⟩|pQ
    ·clear xP aX HMO HXM
     go_upto_region 15 with fail;have KK:=Hd (Q.refl wx)
     (go_region_held3 (fun w'=>w'.cell? ⟨wb,1,none⟩=some (au fb)∧w'.cell? ⟨wr.heap.size,0,none⟩=some (.int .i64 a.op)∧w'.cell? ⟨wr.heap.size,1,none⟩=some (.int .i64 a.at_)∧w'.cell? ⟨wr.heap.size,2,none⟩=some (.int .i64 a.n)∧w'.cell? ⟨wr.heap.size,3,none⟩=some (ah a.name)∧w'.cell? ⟨wr.heap.size,4,none⟩=some (ah a.tO)∧w'.cell? ⟨wr.heap.size,5,none⟩=some (.slice ka a.keep.length kc)∧w'.cell? ⟨wr.heap.size,6,none⟩=some (.int .u8 (a.byte.toNat:Nat)))
      (first|exact g0|exact⟨c1,y0,y1,y2,y3,y4,y5,y6⟩|exact qn δ c1 y0 y1 y2 y3 y4 y5 y6)
      (first
       | (go_at_call 12;with_reducible refine(rJ.out _).mono ?_;rintro e w3 ⟨rfl,q3⟩;have s':Q wx w3:=Q.trans ω q3;clear KK;have KK:=Hd s';clear s' q3)
       | (go_at_call 11;with_reducible refine(VY.out _ ω).mono ?_;rintro e w5 ⟨rfl,h5,b5⟩;have g0:=And.intro h5.cells.2 b5.c7;have H5:=Hd (h5.mono (show 3000000012+3000000000*k+3000000000≤3000000012+3000000000*(k+1) by omega));clear h5 b5)))
     all_goals
      have ha:=JD.out;obtain⟨z1,z2,z3,z4,z5,z6,z7,z8⟩:=g0;by_cases hz:(φ.append [111,119,110] dt).2=0
      ·rw[Φ hz] at ha
       have HA:=Hd ha;have bX:t.length+dt.length≤9223372036854775807:=U;rw[hz];clear ha JD VY c1 y0 y1 y2 y3 y4 y5 y6;go_wp2_with fail;refine(rJ.out _).mono ?_;rintro e w6 ⟨rfl,q6⟩;have H6:=Hd (H5.out.keep q6);clear q6;go_wp2_with fail;go_roundw;case rel=>rw[bytes_append];exact Un.out _ _ (t++dt) _ (by go_num) (by rw[Δ];omega) H6 HA
       case measure=>simp[intOf];omega
      ·rw[η hz] at ha
       have HA:=Hd ha;have hzb:((φ.append [111,119,110] dt).2==0)=false:=SZ hz;clear ha JD VY c1 y0 y1 y2 y3 y4 y5 y6;go_wp2_with fail;go_roundw;case rel=>exact Un.out _ _ t _ (by go_num) U H5 HA
       case measure=>simp[intOf];omega
    ·clear rJ VY JD
     have V3:(¬(pz:Int)<9)∨(pz:Int)<9∧(a.name=jF∨((a.name==[111,119,110])=false∧a.name≠jF)∧(a.tO=jF∨((a.tO==[111,119,110])=false∧a.tO≠jF))):=by
      by_cases h9:(pz:Int)<9
      ·refine .inr ⟨h9,?_⟩
       by_cases h1:a.name=jF
       ·exact .inl h1
       ·refine .inr ⟨⟨SZ h1,h1⟩,?_⟩
        by_cases h2:a.tO=jF
        ·exact .inl h2
        ·exact .inr ⟨SZ h2,h2⟩
      ·exact .inl h9
     rcases pQ with h1|⟨h1,h4⟩|⟨h1,h4,h2⟩;all_goals
      go_upto_region 18 with fail;rcases V3 with h9|⟨h9,hn|⟨⟨hn,kV⟩,ht|⟨ht,zG⟩⟩⟩;all_goals
       first
        | (exfalso;omega)
        | (have HD:=Hd (xP.out U);have tY:=Hd (aX.out U kV zG);go_wp2_with fail;refine HD.out.mono ?_;rintro e w9 ⟨rfl,h9',t9⟩;have HZ:=Hd (h9'.mono (show 3000000012+3000000000*k+3000000000≤3000000012+3000000000*(k+1) by omega));clear h9' t9 HD;go_wp2_with fail;go_roundw;(case rel=>exact Un.out _ _ t _ (by go_num) U HZ tY);(case measure=>simp[intOf];omega))
        | ((first|(rw[hn] at y3;unfold jF at y3)|(rw[ht] at y4;unfold jF at y4)|skip);clear xP aX;go_wp2_with fail;go_roundw;(case rel=>exact Un.out _ _ t _ (by go_num) U HXM HMO);(case measure=>simp[intOf];omega))
   ·obtain rfl:k=l.length:=U
    have bq:¬(l.length:Int)<(l.length:Int):=U;obtain⟨C,hg,_⟩:=HG.out;have hI:=hg.ok U;have hd:φ.st.dead=false:=by obtain⟨⟨fr,hi⟩,_⟩:=hg;exact hi.live
    have fT:φ.l.length≤64:=by obtain⟨⟨fr,hi⟩,_⟩:=hg;exact hi.good.ok.few
    have aew:φ.used=12+jj φ.l∧φ.used+φ.free=76:=by
     obtain⟨⟨fr,hi⟩,_,hn⟩:=hg;obtain⟨h1,h2⟩:=hi.count;rw[hn] at h2;exact⟨h1,h2⟩
    have rF:∀j (hj:j<φ.l.length),φ.l[j].size≤2147483647:=fun j hj=>by obtain⟨⟨fr,hi⟩,_⟩:=hg;exact(hi.good.ok.ok _ (LO hj)).size
    have D8:∀W:World,Calls prog 10 #[.int .i64 at_,.int .i64 ((t.length:Int)+1)] W fun e w'=>e=.returned (.int .i64 (lC at_ (t.length+1):Nat))∧W=w':=fun W=>by
     have:=HP1.out (t.length+1) W U U;rwa [show((t.length+1:Nat):Int)=(t.length:Int)+1 by omega] at this
    have bW:=agu (t.length+1) U;have e5:IntKind.i64.wrap ((t.length:Int)+1)=(t.length:Int)+1:=IntWalk.i64_in _ U;generalize lC at_ (t.length+1)=pa at *;generalize lC n 3000=pn at *;have dz:=HG.out.read pa pn U;have k1:=fun (W:World) K (h:WW w1 W wb fb b φ K) (hK:K≤100000000000000000)=>h.lift (h.1.cC hI U jF (pa:Nat) (pn:Nat) U dz)
    have k2:=fun (W:World) K (h:WW w1 W wb fb b φ K)=>h.1.list hI hd
    have k3:=fun (W:World) K (h:WW w1 W wb fb b φ K)=>h.1.whole hg U
    have k4:=fun (W W':World) K (h:WW w1 W wb fb b φ K) (q:Q W W')=>h.used q hI hd
    have c1:=HW.out.cells.2;have am3:∀j,jj (φ.l.take j)≤10000000*j:=fun j=>by
     induction j with
     | zero=>rw[R0];exact L0 _
     | succ j ih =>
      by_cases hj:j<φ.l.length
      ·rw[abh _ _ hj];have:=rF j hj;unfold cB;omega
      ·rw[Mp U] at ih ⊢;omega
    have akc:=Hd am3;clear am3;have H1:=Hd D8;have K1:=Hd k1;have K2:=Hd k2;have K3:=Hd k3;have K4:=Hd k4;have VU:=Hd rF;unfold jF at K1;clear D8 k1 k2 k3 k4 rF hg hI hd dz HG xW HWF HKE HP1 agu;obtain⟨cO,dI⟩:=aew;generalize φ.used=us at *;generalize φ.free=fr at *;generalize φ.l=fl at *;go_wp2_with fail;refine(H1.out _).mono ?_;rintro e w8 ⟨rfl,rfl⟩;go_wp2_with fail;refine(kX.out _).mono ?_;rintro e w8 ⟨rfl,rfl⟩;go_wp2_with fail;refine(K1.out _ _ HW.out U).mono ?_;rintro e w9 ⟨rfl,h9⟩;replace c1:=h9.cells.2;have S1':=Hd h9;clear h9 HW K1;have rD:((List.take pn (List.drop pa t))==(({ data:=t.toArray }:ByteArray).extract pa (min (t.length:Int) ((pa:Int)+(pn:Int))).toNat).toList)=true:=by
     have:(({ data:=t.toArray }:ByteArray).extract pa (min (t.length:Int) ((pa:Int)+(pn:Int))).toNat).toList=List.take pn (List.drop pa t):=by
      rw[eY,ByteArray.toList_eq];show List.take _ (List.drop pa t)=_;by_cases h:(t.length:Int)≤(pa:Int)+(pn:Int)
      ·rw[Mp (by rw[L5];omega),Mp (by rw[L5];omega)]
      ·rw[show(min (t.length:Int) ((pa:Int)+(pn:Int))).toNat-pa=pn by omega]
     rw[this];exact V0 _
    go_wp2_with fail;refine(K2.out _ _ S1'.out).mono ?_;rintro e w10 ⟨la,lc,rfl,q10,P',_,_,hli⟩;have S2:=Hd (S1'.out.keep q10);replace c1:=S2.out.cells.2;have HLI:=Hd hli;clear hli q10 S1' K2 rD;go_wp2_with fail;refine(K3.out _ _ S2.out).mono ?_;rintro e w11 ⟨rfl,q11⟩;have S3:=Hd (S2.out.keep q11);replace c1:=S3.out.cells.2;have HL2:=Hd (fun hn=>by obtain⟨g,e1,e2,e3⟩:=HLI.out hn;exact(⟨g,e1,fun k hk=>⟨aj q11 (e3 k hk).1,aj q11 (e3 k hk).2.1,aj q11 (e3 k hk).2.2⟩⟩:∃g,la=some ⟨g,0,none⟩∧ie w11 g fl))
    clear HLI S2 K3 q11;go_wp2_with fail;go_loopw [23,24] (fun u i wr=>∃j:Nat,i=.int .i64 (j:Nat)∧j≤fl.length∧u=.int .i64 ((12+jj (fl.take j):Nat):Int)∧wr=w11) (fun _ i _=>fl.length-(intOf i).toNat)
    case atStart=>exact⟨0,rfl,L0 _,rfl,rfl⟩
    case round =>
     obtain⟨j,rfl,hj,rfl,rfl⟩:=hrel;by_cases ay:j<fl.length
     ·have bq:(j:Int)<(fl.length:Int):=U
      have lT:(0:Int)≤(j:Int):=U;obtain⟨g,rfl,hc⟩:=HL2.out U;obtain⟨_,_,x2⟩:=hc j ay;have bP:=VU.out j ay;have nA:=abh fl j ay;have CO:=akc.out j;unfold cB at nA;clear hc;generalize fl[j].size=z at *;have e6:((z:Int)+255).tdiv 256=((z+255) / 256:Nat):=by rw[Int.tdiv_eq_ediv_of_nonneg U];omega
      have CQ:=Hd nA;generalize jj (fl.take j)=sj at *;go_wp2_with fail;go_roundw;case rel=>exact⟨j+1,by go_num,U,by rw[CQ.out];go_num,trivial⟩
      case measure=>simp[intOf];omega
     ·obtain rfl:j=fl.length:=U
      have bq:¬(fl.length:Int)<(fl.length:Int):=U;rw[M1,←cO];have k4:=fun (W':World) (q:Q wr W')=>(K4.out _ W' _ S3.out q).1
      have k5:=fun (W':World) (q:Q wr W')=>(K4.out _ W' _ S3.out q).2
      have H4:=Hd k4;have H5:=Hd k5;clear k4 k5 K4 cO;have e7:IntKind.i64.wrap ((us:Int)+(fr:Int))=76:=by rw[IntWalk.i64_in _ U];omega
      go_wp2_with fail;have KK:=Hd (Q.refl wr)
      (go_region_held3 (fun w'=>w'.cell? ⟨wb,1,none⟩=some (au fb))
       (first|exact c1|exact aI δ c1)
       (first
        | (go_at_call 17;with_reducible refine(H4.out _ ω).mono ?_;rintro e w3 ⟨rfl,q3⟩;have s':Q wr w3:=Q.trans ω q3;clear KK;have KK:=Hd s';clear s' q3)
        | (go_at_call 18;with_reducible refine(H5.out _ ω).mono ?_;rintro e w3 ⟨rfl,q3⟩;have s':Q wr w3:=Q.trans ω q3;clear KK;have KK:=Hd s';clear s' q3)))
      all_goals
       go_wp2_with fail;go_ret;exact⟨rfl,Q1.out.trans (S3.out.q.trans KK.out)⟩
end
end Go.Proofs.YtbkahhebmpehnaaGreatDoor
