/- Joined: WRef9c to Tabs7 -/
import Derived.Test.YtonlbpljghohmaaGreatDoorCWWFtB
import Derived.Test.YtonlbpljghohmaaGreatDoorCWWRef1a
import Derived.Deep.Slices
import Derived.ShutString
import Derived.LaidMore
import Derived.Lay
import Derived.Lib.LaidU8T
import Derived.PinnedBridge
import Derived.Test.YtonlbpljghohmaaGreatDoorRows
set_option linter.all false
set_option maxRecDepth 100000
set_option maxHeartbeats 8000000
namespace Go.Proofs.YtonlbpljghohmaaGreatDoor
open Go.Proofs.Tryz
section
open Go.RowKit
theorem RF.dev{w0 w:World}{fb sb b:Nat}{σ:StL}(h:RF w0 w fb sb b σ):∃a cap,w.cell? ⟨b,0,none⟩=some (.slice a σ.n cap):=by
 obtain⟨F,h1,h2,h3,h4,h5⟩:=h;obtain⟨FJ,p,tv,h6,_⟩:=h4.parts;obtain⟨lv,pv,hd⟩:=h6.jr.dev;obtain⟨a,cap,e,_⟩:=aY hd.ik;exact⟨a,cap,by rw[hd.box.cell 0 _ rfl];exact RE some e⟩
theorem De:(jN 4096).length=512:=by unfold jN;rw[Φ Z,Of];rfl
theorem Yh(w0 w:World)(F:Nat→Prop)(b n:Nat)(h:cq w F b (fE n).st.j.d)(hF:∀k,F k→k<w.heap.size)(qP:∀k,F k→w0.heap.size≤k)(q0:Q w0 w)(h1:128≤n)(h2:n≤4096):
  Calls prog 41 #[au b,.int .i64 64] w fun e w'=>∃p ec,e=.returned (.tuple #[.pointer p,.int .i64 ec])∧Q w0 w':=by
 obtain⟨C,hg,uX⟩:=Kj n h1 h2;obtain⟨⟨s,k,fr,nN⟩,g2,_,g4,g5,_,_,g8,g9,_,g11,_⟩:=DT hg Z;rw[uX] at g11;obtain⟨⟨fr',hi⟩,_,hn⟩:=g11;have fB:=Ow w F b (fE n).st.j.d h hF nN g2 U Z U g9;have xV:(ng (fE n).st.j.d []).st=aV (fE n).st.j.d:=rfl;rw[xV] at hn;have Ae:gd (aV (fE n).st.j.d):=hi.st.know Z;have lK:ak n+12≤n:=by have:=hi.good.room;rwa [xV,hn] at this
 have mO:(aV (fE n).st.j.d).tx=[]:=hi.st.closed hi.closed;have dz:∀k:Nat,k<12→(aV (fE n).st.j.d).read ((ak (aV (fE n).st.j.d).n+k:Nat):Int)=(aG (bR []) k,0):=fun k hk=>by
  have h1:(aV (fE n).st.j.d).dead=false:=hi.live;have h2:(aV (fE n).st.j.d).cP ((ak (aV (fE n).st.j.d).n+k:Nat):Int)=true:=by unfold StL.cP;rw[hn];simp;omega
  have h3:(aV (fE n).st.j.d).get (ak (aV (fE n).st.j.d).n+k)=aG (bR []) k:=by
   have anc:63≤ak (aV (fE n).st.j.d).n:=by unfold ak;omega
   have:=hi.st.get (ak (aV (fE n).st.j.d).n+k) U (by show _<(aV (fE n).st.j.d).n;rw[hn];omega)
   rw[xV,mO] at this;rw[this];exact hi.good.dir k hk
  unfold StL.read;rw[h1,h2,η Z,Φ rfl,PM,h3]
 have iT:=fun (W:World) (fb sb:Nat) (hr:RF w0 W fb sb b (aV (fE n).st.j.d))=>Vr w0 W fb sb b _ hr Ae (by rw[hn];exact h2) (by rw[hn];omega) (bR []) (kg qZ) dz
 have eP:=fun (W:World) (fb sb:Nat) (hr:RF w0 W fb sb b (aV (fE n).st.j.d))=>hr.first (by rw[hn];exact h2)
 have pO:=fun (W:World) (fb sb:Nat) (hr:RF w0 W fb sb b (aV (fE n).st.j.d))=>(show Calls prog 90 #[au sb] W (fun e w'=>∃v,e=.returned v∧w'.ownsRow W.heap.size 120 2 v (mW (aV (fE n).st.j.d).ai (ak n) n).length (ext (mW (aV (fE n).st.j.d).ai (ak n) n))∧Q W w') from by
  obtain⟨F,_,_,_,h4,_⟩:=hr;have:=Yg h4 Ae hi.live hi.st.map.low;rwa [hn] at this)
 have qE:=fun (W:World) (fb sb:Nat) (hr:RF w0 W fb sb b (aV (fE n).st.j.d))=>hr.dev
 rw[hn] at eP qE;have kS:∀r∈mW (aV (fE n).st.j.d).ai (ak n) n,r.1+r.2≤4096:=fun r hr=>by
  have lq:=hi.st.map.low;rw[xV,hn] at lq;rw[yC _ _ _ lq U] at hr;have:=(BN _ _ _ r hr).2.1;omega
 have nk:(mW (aV (fE n).st.j.d).ai (ak n) n).length≤4096:=by
  have lq:=hi.st.map.low;rw[xV,hn] at lq;rw[yC _ _ _ lq U];exact My (GJ _ _ _) U
 have nV:=fun (W:World)=>Rk W
 have zM:=fun (a c:Int) (W:World)=>Dq a c W
 have Aa:=fun (W:World)=>Nw 4096 W
 have iU:=De;have rD:=fun (m:Bytes) (hm:m.length=512) (s c:Nat) (z8:s+c≤4096) (W:World)=>(MO m s c true W (by rw[hm];decide) (by rw[hm];omega)).mono fun e w' hx=>(show e=.returned (.tuple #[ah (bF m s true c),.bool true])∧Q W w' from hx)
 have qp:=fun (m:Bytes) (s c:Nat)=>jL m s true c
 have vB:=Hd fB;have Ic:=Hd iT;have iW:=Hd eP;have Tf:=Hd pO;have VW:=Hd qE;have xO:=Hd kS;have zL:=Hd nV;have Mt:=Hd zM;have JE:=Hd Aa;have Mv:=Hd rD;have FE:=Hd qp;have BH:=Hd qP;have mF:=Hd q0;clear fB iT eP pO qE kS nV zM Aa rD qp qP q0 hF h dz mO Ae xV hi hg uX nN g2 g4 g5 g8 g9;generalize aV (fE n).st.j.d=σ at *;generalize mW σ.ai (ak n) n=us at *;generalize bR []=pk at *;generalize jN 4096=mk at *;generalize ak n=fd at *;go_enter func41,ntmps41;go_wp2_with fail;refine vB.out.mono ?_;rintro e w1 ⟨sb,rfl,JJ,t1⟩;have l1:=yH (w':=w1) BH.out mF.out.size;have q1:=t1.low BH.out mF.out;obtain⟨wb,rV⟩:∃wb,wb=w1.alloc (.cells #[au sb] 133):=⟨_,rfl⟩;have qb:Q w1 wb:=by rw[rV];exact Q.alloc _ _
 have bZ:Blk wb w1.heap.size 133 #[au sb]:=by rw[rV];exact Blk.new w1 _ _
 obtain⟨FJ,p,tv,_,_,Kn⟩:=JJ.parts;have hrf:RF w0 wb w1.heap.size sb b σ:=⟨_,l1,fun hc=>by have:=Kn _ hc;omega,bZ,JJ.keep qb,q1.trans qb⟩
 have H1:=Hd hrf;clear JJ t1 l1 q1 qb bZ hrf Kn;obtain⟨da,dc,c0⟩:=VW.out _ _ _ H1.out;have e1:IntKind.i64.wrap ((fd:Int)+12)=(fd:Int)+12:=IntWalk.i64_in _ U;have e2:¬(n:Int)<(fd:Int)+12:=U;go_wp2_with fail;rw[←rV];clear rV;refine(iW.out _ _ _ H1.out).mono ?_;rintro e w2 ⟨rfl,rfl⟩;go_wp2_with fail;refine(Ic.out _ _ _ H1.out).mono ?_;rintro e w2 ⟨rfl,zW⟩;have H2:=Hd zW;clear zW H1 c0;go_wp2_with fail;refine(zL.out _).mono ?_;rintro e w3 ⟨rfl,q3⟩;have H3:=Hd (H2.out.keep q3);clear q3 H2;obtain⟨da,dc,c0⟩:=VW.out _ _ _ H3.out;go_wp2_with fail;refine(Mt.out _ _ _).mono ?_;rintro e w4 ⟨rfl,rfl⟩;go_wp2_with fail;refine(JE.out _).mono ?_;rintro e w4 ⟨rfl,q4⟩;have H4:=Hd (H3.out.keep q4);clear q4 H3 c0;go_wp2_with fail;refine(iW.out _ _ _ H4.out).mono ?_;rintro e w5 ⟨rfl,rfl⟩;go_wp2_with fail;refine(Mv.out mk iU fd 12 U _).mono ?_;rintro e w5 ⟨rfl,q5⟩;have H5:=Hd (H4.out.keep q5);have dZ:(bF mk fd true 12).length=512:=by rw[FE.out];exact iU
 clear q5 H4;generalize bF mk fd true 12=bits at *;go_wp2_with fail;go_loopw [13,15] (fun x i wr=>x=ah bits∧i=.int .i64 0∧wr=w5) (fun _ _ _=>0)
 case atStart=>exact⟨rfl,rfl,rfl⟩
 case round =>
  obtain⟨rfl,rfl,rfl⟩:=hrel;go_wp2_with fail;refine(Tf.out _ _ _ H5.out).mono ?_;rintro e w6 ⟨v,rfl,ho,q6⟩;obtain⟨va,vc,rfl,Hu⟩:=aY ho;have H6:=Hd (H5.out.q.trans q6);have aP:0<us.length→∃g,va=some ⟨g,0,none⟩∧∀k (hk:k<us.length),w6.cell? ⟨g,k*2,none⟩=some (.int .i64 us[k].1)∧w6.cell? ⟨g,k*2+1,none⟩=some (.int .i64 us[k].2):=fun hp=>by
   obtain⟨g,rfl⟩:=Hu hp;exact⟨g,rfl,Ou ho⟩
  have xW:=Hd aP;clear q6 ho Hu aP;go_wp2_with fail;refine(JE.out _).mono ?_;rintro e w7 ⟨rfl,q7⟩;have Q7:=Hd q7;clear q7;go_wp2_with fail;go_loopw [18,19] (fun x i wr=>∃(k:Nat) (m:Bytes),x=ah m∧i=.int .i64 (k:Nat)∧k≤us.length∧m.length=512∧Hid (Q w6 wr)) (fun _ i _=>us.length-(intOf i).toNat)
  case atStart=>exact⟨0,mk,rfl,rfl,MD _,iU,Q7⟩
  case round =>
   obtain⟨k,m,rfl,rfl,hk,hm,HQ⟩:=hrel;by_cases ay:k<us.length
   ·have bq:(k:Int)<(us.length:Int):=U
    have lT:(0:Int)≤(k:Int):=U;obtain⟨g,rfl,hc⟩:=xW.out U;obtain⟨x0,x1⟩:=hc k ay;replace x0:=aj HQ.out x0;replace x1:=aj HQ.out x1;have hr:=xO.out _ (MA ay);generalize us[k]=r at *;obtain⟨r1,r2⟩:=r;simp only[] at x0 x1 hr;have rD:=fun (W:World)=>Mv.out m hm r1 r2 hr W
    have VZ:(bF m r1 true r2).length=512:=by rw[FE.out];exact hm
    have HS:=Hd rD;have HM:=Hd hm;clear rD hc hm;generalize bF m r1 true r2=m2 at *;have LY:=Hd VZ;clear VZ;have KK:=Hd (Q.refl wr);go_wp2_with fail
    (go_region_held3 (fun w'=>w'.cell? ⟨g,k*2,none⟩=some (.int .i64 (r1:Nat))∧w'.cell? ⟨g,k*2+1,none⟩=some (.int .i64 (r2:Nat)))
     (first|exact⟨x0,x1⟩|exact two δ x0 x1)
     (first
      | (go_at_call 88;with_reducible refine(HS.out _).mono ?_;rintro e w8 ⟨rfl,q8⟩;have s':Q wr w8:=Q.trans ω q8;clear KK;have KK:=Hd s';clear s' q8)))
    all_goals
     go_wp2_with fail;exact⟨⟨k+1,m2,rfl,by go_num,U,LY.out,Hd (HQ.out.trans KK.out)⟩,by simp[intOf];omega⟩
   ·obtain rfl:k=us.length:=U
    have bq:¬(us.length:Int)<(us.length:Int):=U;have lG:=Hd (H6.out.trans HQ.out);by_cases Pj:(bits==m)=true
    ·go_wp2_with fail
     all_goals
      go_returns;exact⟨⟨_,_,rfl⟩,lG.out⟩
    ·have ane:(bits==m)=false:=by simpa using Pj
     go_wp2_with fail;all_goals
      go_returns;exact⟨⟨_,_,rfl⟩,lG.out⟩
theorem DW(w:World)(n most:Nat)(h1:128≤n)(h2:n≤4096)(hm:64≤most∧most≤1024):
  Calls prog 37 #[.int .i64 (n:Nat),.int .i64 (most:Nat)] w fun e w'=>∃fb b,e=.returned (.tuple #[au b,au fb,.bool true])∧FW (fun _=>False) w w' fb b (st9 n) 12:=by
 obtain⟨C,hg,uX⟩:=Kj n h1 h2;obtain⟨_,_,_,g4,g5,_,_,g8,_,g10,g11,_⟩:=DT hg Z;rw[uX] at g11;obtain⟨⟨fr',hi⟩,_,_⟩:=g11;have rT:=GE w n U h2;have D6:=fun (W:World) (F:Nat→Prop) (b:Nat) (h:cE W F b (af.new n)) (hF:∀k,F k→k<W.heap.size)=>Va W F b n h hF h1 h2
 have fB:=fun (W:World) (F:Nat→Prop) (b:Nat) (h:cE W F b (fE n).st.j.d) (hF:∀k,F k→k<W.heap.size)=>Rf W F b (fE n).st.j.d most [] h hF g5 (fun _=>U) hm g10 hi Z
 have zK:=Hd rT;have HFM:=Hd D6;have vB:=Hd fB;clear rT D6 fB hi hg uX g4 g5 g8 g10;rw[show ng (fE n).st.j.d []=st9 n from rfl] at vB
 generalize (fE n).st.j.d=d at *;generalize st9 n=φ at *;go_enter func37,ntmps37;go_wp2_with fail;refine zK.out.mono ?_;rintro e w1 ⟨rfl,Bu,q1⟩;have hf:=HFM.out w1 _ _ Bu (fun k hk=>hk.2)
 have HF:=Hd hf;have Q1:=Hd q1;clear hf Bu q1;go_wp2_with fail;refine HF.out.mono ?_;rintro e w2 ⟨rfl,⟨G,Md,hG⟩,t2⟩;have Ig:∀k,G k→w.heap.size≤k∧k<w2.heap.size:=fun k hk=>by
  have hs:=t2.size;have:=Q1.out.size;rcases hG k hk with hk|hk
  ·exact⟨hk.1,Ψ hk.2 hs⟩
  ·exact⟨U,hk.2⟩
 have ho:=vB.out w2 _ _ Md (fun k hk=>(Ig k hk).2)
 have HO:=Hd ho;have Q2:=Hd (t2.low (fun k hk=>hk.1) Q1.out);have HG:=Hd Ig
 clear ho Md t2 hG Ig;go_wp2_with fail;refine HO.out.mono ?_;rintro e w3 ⟨fb,rfl,⟨G3,sb,h3,hG3⟩,OD,t3⟩;have H3:=Hd h3;have gF:=Hd hG3;have T3:=Hd t3;have HFB:=Hd OD;clear h3 hG3 t3 OD;go_wp2_with fail;go_ret3;have jm:=Q2.out.size;refine⟨_,_,rfl,G3,sb,fun k hk=>?_,fun _ _ hc=>hc,fun _ hc=>hc.elim,H3.out,T3.out.low (fun k hk=>(HG.out k hk).1) Q2.out⟩
 rcases hk with hk|hk
 ·rcases gF.out k hk with hk|hk
  ·exact(HG.out k hk).1
  ·omega
 ·have:=HFB.out;omega
theorem Yi(w:World)(most:Nat)(hm:64≤most∧most≤1024):
  Calls prog 11 #[.int .i64 (most:Nat)] w fun e w'=>∃wb fb b mb,e=.returned (.tuple #[au wb,au mb,.bool true])∧WW w w' wb fb b (st9 140) 12:=by
 have Mq:=DW w 140 most Z Z hm;have rT:=fun (W:World)=>AH W 140 Z Z
 have D6:=fun (W0 W:World) (F:Nat→Prop) (b:Nat) (h:cq W F b (af.new 140)) (hF:∀k,F k→k<W.heap.size) (qP:∀k,F k→W0.heap.size≤k) (q:Q W0 W)=>Rw W0 W F b 140 h hF qP q Z Z
 have fB:=fun (W0 W:World) (F:Nat→Prop) (b:Nat) (h:cq W F b (fE 140).st.j.d) (hF:∀k,F k→k<W.heap.size) (qP:∀k,F k→W0.heap.size≤k) (q:Q W0 W)=>Yh W0 W F b 140 h hF qP q Z Z
 have HFO:=Hd Mq;have zK:=Hd rT;have HFM:=Hd D6;have vB:=Hd fB;clear Mq rT D6 fB;have e140:((140:Nat):Int)=140:=rfl;rw[e140] at HFO zK;generalize (fE 140).st.j.d=d at *;generalize st9 140=φ at *;go_enter func11,ntmps11;go_wp2_with fail;refine HFO.out.mono ?_;rintro e w1 ⟨fb,b,rfl,h1⟩;have H1:=Hd h1;clear h1;go_wp2_with fail;refine(zK.out _).mono ?_;rintro e w2 ⟨rfl,Md,q2⟩;have hf:=HFM.out w1 w2 _ _ Md (fun k hk=>hk.2) (fun k hk=>hk.1) q2
 have HF:=Hd hf;clear hf Md q2;go_wp2_with fail;refine HF.out.mono ?_;rintro e w3 ⟨ec,rfl,⟨G,Y7,TK,Ig⟩,q3⟩;have ho:=vB.out w1 w3 _ _ Y7 Ig TK q3;have HO:=Hd ho;clear ho Y7 TK Ig q3;go_wp2_with fail;refine HO.out.mono ?_;rintro e w4 ⟨p,ec2,rfl,q4⟩;have H4:=Hd (H1.out.keep q4);clear q4 H1;go_wp2_with fail;go_ret3;have kJ:=Q.alloc w4 (.cells #[au b,au fb] 35);have gY:=Blk.new w4 35 #[au b,au fb];generalize wJ:w4.alloc (.cells #[au b,au fb] 35)=w5 at *;have yj:=Q.alloc w5 (.cells #[au w1.heap.size,.pointer p] 72);obtain⟨F,sb,x1,x2,x3,⟨v,x4⟩,x5⟩:=(H4.out.keep kJ).keep yj;have ay:=H4.out;obtain⟨F',sb',y1,y2,y3,⟨v',y4⟩,y5⟩:=H4.out;have xU:=y4.fy;have hz:w5.heap.size=w4.heap.size+1:=by rw[←wJ];exact World.size_alloc ..
 refine⟨w4.heap.size,fb,b,w5.heap.size,by rw[hz];rfl,⟨F',sb',y1,fun k hk hc=>?_,fun k hc=>?_,⟨v',(y4.keep kJ).keep yj⟩,(y5.trans kJ).trans yj⟩,gY.stays yj⟩
 ·have:=xU k hk
  have h9:k=w4.heap.size:=hc;omega
 ·have h9:k=w4.heap.size:=hc
  have:=yj.size;omega
end
section
open Go.RowKit
section
variable {P:Nat→Prop} {w0 w:World} {fb b:Nat} {φ φ':FsL} {K:Nat} {c:Int}
theorem FW.via{R:Ending→Prop}{f:FuncId}{av:Array Value}(h:FW P w0 w fb b φ K)(hc:∀(F:Nat→Prop) (sb:Nat) (v:Value),FsG w F fb sb b φ K v→Calls prog f av w fun e w'=>R e∧FsR w w' F fb sb b φ' (K+3000000000)):Calls prog f av w fun e w'=>R e∧FW P w0 w' fb b φ' (K+3000000000)∧ae (fun k=>¬P k) w w':=by
 obtain⟨F,sb,v,h1,h2,h3,h4⟩:=h.next (Q.refl w);exact(hc F sb v h1).mono fun e w' hx=>⟨hx.1,(h4 w w' _ _ (Q.refl w) hx.2).1,(h4 w w' _ _ (Q.refl w) hx.2).2.mono h3⟩
theorem FW.create(h:FW P w0 w fb b φ K)(hI:FOk φ)(hK:K≤900000000000000000)(s:Bytes)(hs:s.length≤1000)(e:φ.create s=(φ',c)):Calls prog 14 #[au fb,ah s] w fun e w'=>e=.returned (.int .i64 c)∧FW P w0 w' fb b φ' (K+3000000000)∧ae (fun k=>¬P k) w w' :=
 h.via fun F sb v hg=>by
  have:=Jg w F fb sb b φ K v s hg hI U U
  rw[e] at this
  exact this.mono fun e w' hx=>⟨hx.1,hx.2.mono U⟩
theorem FW.append(h:FW P w0 w fb b φ K)(hI:FOk φ)(hK:K≤900000000000000000)(s d:Bytes)(hs:d.length≤7000)(e:φ.append s d=(φ',c)):Calls prog 15 #[au fb,ah s,ah d] w fun e w'=>e=.returned (.int .i64 c)∧FW P w0 w' fb b φ' (K+3000000000)∧ae (fun k=>¬P k) w w' :=
 h.via fun F sb v hg=>by
  have:=Jj w F fb sb b φ K v s d hg hI U U
  rw[e] at this
  exact this.mono fun e w' hx=>⟨hx.1,hx.2.mono U⟩
theorem FW.seal(h:FW P w0 w fb b φ K)(hI:FOk φ)(hK:K≤900000000000000000)(s:Bytes)(e:φ.fW s=(φ',c)):Calls prog 16 #[au fb,ah s] w fun e w'=>e=.returned (.int .i64 c)∧FW P w0 w' fb b φ' (K+3000000000)∧ae (fun k=>¬P k) w w' :=
 h.via fun F sb v hg=>by
  have:=N8 w F fb sb b φ K v s hg hI U
  rw[e] at this
  exact this.mono fun e w' hx=>⟨hx.1,hx.2.mono U⟩
theorem FW.delete(h:FW P w0 w fb b φ K)(hI:FOk φ)(hK:K≤900000000000000000)(s:Bytes)(e:φ.delete s=(φ',c)):Calls prog 38 #[au fb,ah s] w fun e w'=>e=.returned (.int .i64 c)∧FW P w0 w' fb b φ' (K+3000000000)∧ae (fun k=>¬P k) w w' :=
 h.via fun F sb v hg=>by
  have:=Gw w F fb sb b φ K v s hg hI U
  rw[e] at this
  exact this.mono fun e w' hx=>⟨hx.1,hx.2.mono U⟩
theorem FW.rename(h:FW P w0 w fb b φ K)(hI:FOk φ)(hK:K≤900000000000000000)(s t:Bytes)(ht:t.length≤1000)(e:φ.rename s t=(φ',c)):Calls prog 28 #[au fb,ah s,ah t] w fun e w'=>e=.returned (.int .i64 c)∧FW P w0 w' fb b φ' (K+3000000000)∧ae (fun k=>¬P k) w w' :=
 h.via fun F sb v hg=>by
  have:=Ji w F fb sb b φ K v s t hg hI U U
  rw[e] at this
  exact this.mono fun e w' hx=>⟨hx.1,hx.2.mono U⟩
theorem FW.d8(h:FW P w0 w fb b φ K)(hI:FOk φ)(hK:K≤900000000000000000)(s:Bytes)(a n:Int)(ha : -9223372036854775808≤a∧a≤9223372036854775807){t:Bytes}(e:φ.d8 s a n=(t,c)):Calls prog 18 #[au fb,ah s,.int .i64 a,.int .i64 n] w fun e w'=>e=.returned (.tuple #[ah t,.int .i64 c])∧FW P w0 w' fb b φ (K+3000000000)∧ae (fun k=>¬P k) w w' :=
 h.via fun F sb v hg=>by
  have:=Jh w F fb sb b φ K v s a n hg hI U ha
  rw[e] at this
  exact this.mono fun e w' hx=>⟨hx.1,hx.2.mono U⟩
theorem FW.free(h:FW P w0 w fb b φ K)(hI:FOk φ)(hd:φ.st.dead=false):Calls prog 27 #[au fb] w fun e w'=>e=.returned (.int .i64 (φ.free:Nat))∧FW P w0 w' fb b φ K∧ae (fun k=>¬P k) w w':=by
 obtain⟨F,sb,v,h1,h2,h3,h4⟩:=h.next (Q.refl w);obtain⟨_,KI,fr,C,hi,gM⟩:=hI.resolve_left (by rw[hd];simp)
 exact(ub w F fb sb b φ K v h1 (hi.st.num U)).mono fun e w' hx=>⟨hx.1,h.keep hx.2,ae.br hx.2⟩
theorem FW.used(h:FW P w0 w fb b φ K)(hI:FOk φ)(hd:φ.st.dead=false):Calls prog 26 #[au fb] w fun e w'=>e=.returned (.int .i64 (φ.used:Nat))∧FW P w0 w' fb b φ K∧ae (fun k=>¬P k) w w':=by
 obtain⟨F,sb,v,h1,h2,h3,h4⟩:=h.next (Q.refl w);obtain⟨_,KI,fr,C,hi,gM⟩:=hI.resolve_left (by rw[hd];simp)
 have hc:=hi.count;have hr:=hi.good.room;exact(N9 w F fb sb b φ K v h1 (hi.st.num U) (by have:=hc.2;unfold FsL.free at this;omega)).mono fun e w' hx=>⟨hx.1,h.keep hx.2,ae.br hx.2⟩
theorem WW.lift{wb:Nat}{R:Ending→Prop}{f:FuncId}{av:Array Value}{K':Nat}(h:WW w0 w wb fb b φ K)(hc:Calls prog f av w fun e w'=>R e∧FW (fun k=>k=wb) w0 w' fb b φ' K'∧ae (fun k=>¬k=wb) w w'):Calls prog f av w fun e w'=>R e∧WW w0 w' wb fb b φ' K' :=
 hc.mono fun e w' hx=>⟨hx.1,hx.2.1,hx.2.2.blk h.2 (fun hn=>hn rfl)⟩
theorem FW.open{k n:Nat}{C:Nat→Bytes}(h:FW P w0 w fb b φ K)(hg:cW k n φ C)(hk:k≤1000000)(most:Nat)(hm:64≤most∧most≤1024):Calls prog 19 #[au b,.int .i64 (most:Nat)] w fun e w'=>∃fb',e=.returned (.tuple #[au fb',.int .i64 0])∧FW P w0 w' fb' b (ng φ.st.j.d φ.l) 12∧ae (fun k=>¬P k) w w':=by
 obtain⟨F,sb,h1,h2,h3,⟨v,h4⟩,h5⟩:=h;obtain⟨_,_,_,g4,g5,_,_,g8,_,g10,⟨⟨fr',hi⟩,_,_⟩,_⟩:=DT hg hk;obtain⟨FJ,FC,p,cb,tb,mo,clock,ms,mb,m,ti,GL,hF,_⟩:=h4.st;have hj:∀k,FJ k→own F fb k:=fun k hk=>.inl (hF k (.inl hk))
 refine(Rf w FJ b φ.st.j.d most φ.l GL.jr.dev (fun k hk=>h4.fy k (hj k hk)) g5 (fun _=>U) hm g10 hi U).mono fun e w' hx=>?_
 obtain⟨fb',x1,⟨G,sb',x2,x3⟩,x4,x5⟩:=hx;have hs:=h5.size;have jm:=x5.size;refine⟨fb',x1,⟨G,sb',fun k hk=>?_,fun k hk=>?_,fun k hk=>Ψ (h3 k hk) jm,x2,x5.low (fun k hk=>h1 k (hj k hk)) h5⟩,x5.mono fun k hk=>h2 k (hj k hk)⟩
 ·rcases hk with hk|hk
  ·rcases x3 k hk with hk|hk
   ·exact h1 k (hj k hk)
   ·omega
  ·omega
 ·rcases hk with hk|hk
  ·rcases x3 k hk with hk|hk
   ·exact h2 k (hj k hk)
   ·intro hp;have:=h3 k hp;omega
  ·intro hp;have:=h3 k hp;omega
end
theorem Yj(w:World):Calls prog 9 #[] w fun e w'=>e=.returned (.bool true)∧Q w w':=by
 have Mq:=DW w 128 64 Z Z Z;obtain⟨s1,s2,s3,s4,s5,C0,C1,C2,C3,C4,C5,g0,g1,g2,g3,g4,g5,a0,a1,a2,a3,a4,a5,a6,a7,a8,a9,a10,f0,u0,f2,f5⟩:=KB 128 Z Z;generalize st9 128=s0 at *;have i0:=g0.ok Z;have i1:=g1.ok Z;have i2:=g2.ok Z;have i3:=g3.ok Z;have i4:=g4.ok Z;have i5:=g5.ok Z;have d0:=(g0.fok Z).1;have d2:=(g2.fok Z).1;have d5:=(g5.fok Z).1;have k1:=fun (W:World) fb b K (h:FW (fun _=>False) w W fb b s0 K)=>h.free i0 d0
 have k2:=fun (W:World) fb b K (h:FW (fun _=>False) w W fb b s0 K)=>h.used i0 d0
 have k3:=fun (W:World) fb b K (h:FW (fun _=>False) w W fb b s0 K) (hK:K≤900000000000000000)=>h.create i0 hK aS Z a0
 have k4:=fun (W:World) fb b K (h:FW (fun _=>False) w W fb b s1 K) (hK:K≤900000000000000000)=>h.create i1 hK aS Z a1
 have k5:=fun (W:World) fb b K (h:FW (fun _=>False) w W fb b s1 K) (hK:K≤900000000000000000)=>h.append i1 hK aS xS (by rw[show xS.length=300 from Of];decide) a2
 have k6:=fun (W:World) fb b K (h:FW (fun _=>False) w W fb b s2 K)=>h.free i2 d2
 have k7:=fun (W:World) fb b K (h:FW (fun _=>False) w W fb b s2 K) (hK:K≤900000000000000000)=>h.d8 i2 hK aS 250 100 Z a3
 have k8:=fun (W:World) fb b K (h:FW (fun _=>False) w W fb b s2 K) (hK:K≤900000000000000000)=>h.d8 i2 hK aS 300 1 Z a4
 have k9:=fun (W:World) fb b K (h:FW (fun _=>False) w W fb b s2 K) (hK:K≤900000000000000000)=>h.d8 i2 hK aS 301 1 Z a5
 have k10:=fun (W:World) fb b K (h:FW (fun _=>False) w W fb b s2 K) (hK:K≤900000000000000000)=>h.seal i2 hK aS a6
 have k11:=fun (W:World) fb b K (h:FW (fun _=>False) w W fb b s3 K) (hK:K≤900000000000000000)=>h.append i3 hK aS [120] Z a7
 have k12:=fun (W:World) fb b K (h:FW (fun _=>False) w W fb b s3 K) (hK:K≤900000000000000000)=>h.rename i3 hK aS bS Z a8
 have k13:=fun (W:World) fb b K (h:FW (fun _=>False) w W fb b s4 K) (hK:K≤900000000000000000)=>h.rename i4 hK aS [99] Z a9
 have k14:=fun (W:World) fb b K (h:FW (fun _=>False) w W fb b s4 K) (hK:K≤900000000000000000)=>h.delete i4 hK bS a10
 have k15:=fun (W:World) fb b K (h:FW (fun _=>False) w W fb b s5 K)=>h.free i5 d5
 have Ed:=fun (W:World)=>Ci 120 300 W Z
 have VO:=fun (W:World)=>Ci 120 50 W Z
 rw[show List.replicate 300 (120:UInt8)=xS from rfl] at Ed
 have e120:((120:UInt8).toNat:Int)=120:=rfl;have e300:((300:Nat):Int)=300:=rfl;have e50:((50:Nat):Int)=50:=rfl;rw[e120,e300] at Ed;rw[e120,e50] at VO;simp only[f0] at k1;simp only[u0] at k2;simp only[f2] at k6;simp only[f5] at k15;unfold aS at k3 k4 k5 k7 k8 k9 k10 k11 k12 k13;unfold bS at k12 k14;have H1:=Hd k1;have H2:=Hd k2;have H3:=Hd k3;have H4:=Hd k4;have H5:=Hd k5;have H6:=Hd k6;have H7:=Hd k7;have H8:=Hd k8;have H9:=Hd k9;have H10:=Hd k10;have H11:=Hd k11;have H12:=Hd k12;have H13:=Hd k13;have H14:=Hd k14;have H15:=Hd k15;have HFO:=Hd Mq;have Wj:=Hd Ed;have HFV:=Hd VO;clear k1 k2 k3 k4 k5 k6 k7 k8 k9 k10 k11 k12 k13 k14 k15 Mq Ed VO g0 g1 g2 g3 g4 g5 a0 a1 a2 a3 a4 a5 a6 a7 a8 a9 a10 f0 u0 f2 f5 i0 i1 i2 i3 i4 i5 d0 d2 d5;generalize xS=xs at *;generalize List.replicate 50 (120:UInt8)=x5 at *;go_enter func9,ntmps9;go_wp2_with fail;refine HFO.out.mono ?_;rintro e w1 ⟨fb,b,rfl,h1⟩;have S0:=Hd h1;clear h1 HFO;go_wp2_with fail;refine(H1.out _ _ _ _ S0.out).mono ?_;rintro e wx ⟨rfl,hx,_⟩;have S1:=Hd hx;clear hx S0;go_wp2_with fail;refine(H2.out _ _ _ _ S1.out).mono ?_;rintro e wx ⟨rfl,hx,_⟩;have S2:=Hd hx;clear hx S1;go_wp2_with fail;refine(H3.out _ _ _ _ S2.out Z).mono ?_;rintro e wx ⟨rfl,hx,_⟩;have S3:=Hd hx;clear hx S2;go_wp2_with fail;refine(H4.out _ _ _ _ S3.out Z).mono ?_;rintro e wx ⟨rfl,hx,_⟩;have S4:=Hd hx;clear hx S3;go_wp2_with fail;refine(Wj.out _).mono ?_;rintro e wx ⟨rfl,qx⟩;have S5:=Hd (S4.out.keep qx);clear qx S4;go_wp2_with fail;refine(H5.out _ _ _ _ S5.out Z).mono ?_;rintro e wx ⟨rfl,hx,_⟩;have S6:=Hd hx;clear hx S5;go_wp2_with fail;refine(H6.out _ _ _ _ S6.out).mono ?_;rintro e wx ⟨rfl,hx,_⟩;have S7:=Hd hx;clear hx S6;go_wp2_with fail;refine(H7.out _ _ _ _ S7.out Z).mono ?_;rintro e wx ⟨rfl,hx,_⟩;have S8:=Hd hx;clear hx S7;go_wp2_with fail;refine(H8.out _ _ _ _ S8.out Z).mono ?_;rintro e wx ⟨rfl,hx,_⟩;have S9:=Hd hx;clear hx S8;go_wp2_with fail;refine(H9.out _ _ _ _ S9.out Z).mono ?_;rintro e wx ⟨rfl,hx,_⟩;have S10:=Hd hx;clear hx S9;go_wp2_with fail;refine(HFV.out _).mono ?_;rintro e wx ⟨rfl,qx⟩;have S11:=Hd (S10.out.keep qx);clear qx S10;go_wp2_with fail;refine(H10.out _ _ _ _ S11.out Z).mono ?_;rintro e wx ⟨rfl,hx,_⟩;have S12:=Hd hx;clear hx S11;go_wp2_with fail;refine(H11.out _ _ _ _ S12.out Z).mono ?_;rintro e wx ⟨rfl,hx,_⟩;have S13:=Hd hx;clear hx S12;go_wp2_with fail;refine(H12.out _ _ _ _ S13.out Z).mono ?_;rintro e wx ⟨rfl,hx,_⟩;have S14:=Hd hx;clear hx S13;go_wp2_with fail;refine(H13.out _ _ _ _ S14.out Z).mono ?_;rintro e wx ⟨rfl,hx,_⟩;have S15:=Hd hx;clear hx S14;go_wp2_with fail;refine(H14.out _ _ _ _ S15.out Z).mono ?_;rintro e wx ⟨rfl,hx,_⟩;have S16:=Hd hx;clear hx S15;go_wp2_with fail;refine(H15.out _ _ _ _ S16.out).mono ?_;rintro e wx ⟨rfl,hx,_⟩;have S17:=Hd hx;clear hx S16;go_wp2_with fail;go_ret;exact⟨rfl,S17.out.q⟩
end
section
open Go.RowKit
theorem Sealed_walk(v:Value)(l:List cJ)(n:Int)(w:World)(hv:Acts9 w v l)(hl:Acts9Wf l)(xQ : -9223372036854775808≤n)(qM:n≤9223372036854775807):
  Calls prog 3 #[v,.int .i64 n] w fun e w'=>e=.returned (.bool true)∧Below w.heap.size w w':=by
 have Ee:=fun (W:World)=>Yj W
 have CO:=fun (W:World) (q:Q w W)=>XL v l W (hv.stays q) hl
 have lF:=fun (W:World)=>Yi W 64 Z
 have gK:=fun (W:World)=>Ch n 3000 W xQ qM Z Z
 have bW:=Ev n 3000 Z;have Ed:=fun (W:World)=>Ci 115 (lC n 3000) W U
 obtain⟨s1,s2,s3,C0,C1,C2,C3,g0,g1,g2,g3,a0,a1,a2,hh⟩:=Rx (List.replicate (lC n 3000) 115) (by rw[Of];omega)
 have nS:(List.replicate (lC n 3000) (115:UInt8)).length≤3000:=by rw[Of];omega
 have wO:gg 0 s3 (List.replicate (lC n 3000) 115):=⟨C3,g3,hh⟩;have e64:((64:Nat):Int)=64:=rfl;have e115:((115:UInt8).toNat:Int)=115:=rfl;have e3000:((3000:Nat):Int)=3000:=rfl;rw[e64] at lF;rw[e115] at Ed;rw[e3000] at gK;have i0:=g0.ok Z;have i1:=g1.ok Z;have i2:=g2.ok Z;generalize List.replicate (lC n 3000) (115:UInt8)=t at *;generalize lC n 3000=pn at *;have k1:=fun (W w0:World) wb fb b K (h:WW w0 W wb fb b (st9 140) K) (hK:K≤900000000000000000)=>h.lift (h.1.create i0 hK jF Z a0)
 have k2:=fun (W w0:World) wb fb b K (h:WW w0 W wb fb b s1 K) (hK:K≤900000000000000000)=>h.lift (h.1.append i1 hK jF t U a1)
 have k3:=fun (W w0:World) wb fb b K (h:WW w0 W wb fb b s2 K) (hK:K≤900000000000000000)=>h.lift (h.1.seal i2 hK jF a2)
 obtain⟨va,vc,rfl,aP⟩:=hv.value;have TU:=hl.2;unfold jF at k1 k2 k3;have HSH:=Hd Ee;have TI:=Hd CO;have HBG:=Hd lF;have sO:=Hd gK;have Wj:=Hd Ed;have K1:=Hd k1;have K2:=Hd k2;have K3:=Hd k3;have xW:=Hd aP;have HWF:=Hd TU;have CJ:=Hd wO;have uX:=hl.1;clear Ee CO lF gK Ed k1 k2 k3 aP TU wO hh i0 i1 i2 a0 a1 a2 g0 g1 g2 g3 hv hl bW;generalize st9 140=s0 at *;go_enter func3,ntmps3;go_wp2_with fail;refine(HSH.out _).mono ?_;rintro e w1 ⟨rfl,q1⟩;have Q1:=Hd q1;clear q1;go_wp2_with fail;refine(TI.out _ Q1.out).mono ?_;rintro e w2 ⟨rfl,rfl⟩;cases vk:wD l with
 | false =>
  go_wp2_with fail;go_ret;exact⟨rfl,Q1.out⟩
 | true =>
  obtain⟨anf,sM⟩:=sf vk;have HKE:=Hd sM;clear vk sM TI;go_wp2_with fail;refine(HBG.out _).mono ?_;rintro e w3 ⟨wb,fb,b,mb,rfl,h3⟩;have S0:=Hd h3;clear h3 HBG;go_wp2_with fail;refine(sO.out _).mono ?_;rintro e w4 ⟨rfl,rfl⟩;go_wp2_with fail;refine(Wj.out _).mono ?_;rintro e w4 ⟨rfl,q4⟩;have S1:=Hd (S0.out.keep q4);clear q4 S0;have c1:=S1.out.cells.2;go_wp2_with fail;refine(K1.out _ _ _ _ _ _ S1.out Z).mono ?_;rintro e w5 ⟨rfl,h5⟩;have S2:=Hd h5;clear h5 S1 c1;have c1:=S2.out.cells.2;go_wp2_with fail;refine(K2.out _ _ _ _ _ _ S2.out Z).mono ?_;rintro e w6 ⟨rfl,h6⟩;have S3:=Hd h6;clear h6 S2 c1;have c1:=S3.out.cells.2;go_wp2_with fail;refine(K3.out _ _ _ _ _ _ S3.out Z).mono ?_;rintro e w7 ⟨rfl,h7⟩;have S4:Hid (WW w1 w7 wb fb b s3 (9000000012+3000000000*0)):=Hd h7;clear h7 S3 c1 K1 K2 K3 sO Wj HSH;go_wp2_with fail;go_loopw [11] (fun i wr=>∃(k:Nat) (φ:FsL),i=.int .i64 (k:Nat)∧k≤l.length∧Hid (WW w1 wr wb fb b φ (9000000012+3000000000*k))∧Hid (gg k φ t)) (fun i _=>l.length-(intOf i).toNat)
  case atStart=>exact⟨0,s3,rfl,MD _,S4,CJ⟩
  case round =>
   obtain⟨k,φ,rfl,hk,HW,HG⟩:=hrel;by_cases ay:k<l.length
   ·have bq:(k:Int)<(l.length:Int):=U
    have lT:(0:Int)≤(k:Int):=U;obtain⟨g,off,rfl,hc⟩:=xW.out U;obtain⟨kv,x0,x1,x2,x3,x4,x5,x6,VR⟩:=hc k ay;obtain⟨ka,kc,rfl⟩:=VR.len;have FM:=Q1.out.trans HW.out.q;have Cz:=HWF.out _ (MA ay);have qO:=HKE.out _ (MA ay);generalize l[k]=a at *;replace x0:=aj FM x0;replace x1:=aj FM x1;replace x2:=aj FM x2;replace x3:=aj FM x3;replace x4:=aj FM x4;replace x5:=aj FM x5;replace x6:=aj FM x6;obtain⟨wx,BG⟩:∃wx,wx=wr.alloc (.cells #[.int .i64 a.op,.int .i64 a.at_,.int .i64 a.n,ah a.name,ah a.tO,.slice ka a.keep.length kc,.int .u8 (a.byte.toNat:Nat)] 40):=⟨_,rfl⟩;have qx:Q wr wx:=by rw[BG];exact Q.alloc _ _
    have bZ:Blk wx wr.heap.size 40 #[.int .i64 a.op,.int .i64 a.at_,.int .i64 a.n,ah a.name,ah a.tO,.slice ka a.keep.length kc,.int .u8 (a.byte.toNat:Nat)]:=by rw[BG];exact Blk.new wr _ _
    have HX:=Hd (HW.out.keep qx);have fV:=fun (W:World)=>Ch a.op 11 W Cz.op.1 Cz.op.2 Z Z
    obtain⟨C,hg,_⟩:=HG.out;have hI:=hg.ok U;have jV:=fun (h9:a.k<9)=>XO w1 wr wx wb fb b φ _ HW.out qx hI U ka a.keep.length kc a Cz ⟨U,U⟩ 64 h9
    have aC:=fun (h9:a.k<9) hn=>HG.out.step U a h9 hn
    have Vv:=HG.out.more;obtain⟨y0,y1,y2,y3,y4,y5,y6⟩:=bZ.c7;have kY:=Hd fV;have xP:=Hd jV;have aX:=Hd aC;have HMO:=Hd Vv;clear hc VR FM qO fV jV aC Vv bZ qx hg hI Cz;unfold ll at xP;have iN:a.k=lC a.op 11:=rfl;rw[iN] at xP aX;clear iN;generalize lC a.op 11=pz at *;go_upto_region 15 with fail;rw[←BG];clear BG x0 x1 x2 x3 x4 x5 x6;go_wp2_with fail;refine(kY.out _).mono ?_;rintro e w8 ⟨rfl,rfl⟩;have rel:∀(wz:World) (ψ:FsL) (j:Int),j=((k+1:Nat):Int)→Hid (WW w1 wz wb fb b ψ (9000000012+3000000000*(k+1)))→Hid (gg (k+1) ψ t)→∃(k':Nat) (φ':FsL),Value.int .i64 j=.int .i64 (k':Nat)∧k'≤l.length∧Hid (WW w1 wz wb fb b φ' (9000000012+3000000000*k'))∧Hid (gg k' φ' t):=fun wz ψ j hj h1 h2=>⟨k+1,ψ,by rw[hj],U,h1,h2⟩
    have Un:=Hd rel;have HXM:=Hd (HX.out.mono (show 9000000012+3000000000*k≤9000000012+3000000000*(k+1) by omega))
    have Mc:l.length-(k+1)<l.length-k:=U;clear rel HW HG HX;by_cases h9:9≤pz
    ·have h9i:(9:Int)≤(pz:Int):=U
     clear xP aX;go_wp2_with fail;go_roundw;case rel=>exact Un.out _ _ _ (by go_num) HXM HMO
     case measure=>simp[intOf];omega
    ·have h9i:¬(9:Int)≤(pz:Int):=U
     by_cases Im:7≤pz∧(a.name=jF∨a.tO=jF)
     ·obtain⟨h7,hs⟩:=Im
      have h7i:(7:Int)≤(pz:Int):=U;clear xP aX;by_cases aF:a.name=jF
      ·rw[aF] at y3
       unfold jF at y3;go_wp2_with fail;go_roundw;case rel=>exact Un.out _ _ _ (by go_num) HXM HMO
       case measure=>simp[intOf];omega
      ·have qN:=hs.resolve_left aF
       rw[qN] at y4;unfold jF at y4 aF;have pX:(a.name==[111,119,110])=false:=abg aF;go_wp2_with fail;go_roundw;case rel=>exact Un.out _ _ _ (by go_num) HXM HMO
       case measure=>simp[intOf];omega
     ·obtain⟨M0,zR⟩:=aX.out U Im
      have HD:=Hd (xP.out U);have Ab:=Hd M0;have qD:=Hd zR;clear xP aX M0 zR;have pQ:¬(7:Int)≤(pz:Int)∨((7:Int)≤(pz:Int)∧(a.name==[111,119,110])=false∧(a.tO==[111,119,110])=false):=by
       by_cases h7:7≤pz
       ·have hn:¬(a.name=jF∨a.tO=jF):=fun hc=>Im ⟨h7,hc⟩
        rw[aek] at hn;exact .inr ⟨U,abg hn.1,abg hn.2⟩
       ·exact .inl U
      clear Im HMO HXM;generalize fJ a φ=dd at *;generalize zi a φ=tx at *;rcases pQ with h7|⟨h7,qM,kV⟩;all_goals
       go_wp2_with fail;refine HD.out.mono ?_;rintro e w9 ⟨rfl,h9',t9⟩;have z3:=t9.cell y3 (fun hc=>absurd hc (US _))
       have z0:=t9.cell y0 (fun hc=>absurd hc (US _))
       have HY:=Hd (h9'.mono (show 9000000012+3000000000*k+3000000000≤9000000012+3000000000*(k+1) by omega))
       clear h9' t9 HD y0 y1 y2 y3 y4 y5 y6;by_cases O0:1≤pz∧pz≤4
       ·have h1i:(1:Int)≤(pz:Int):=U
        have h4i:(pz:Int)≤4:=U;by_cases aF:a.name=jF
        ·have h13:=qD.out O0.1 O0.2 aF
         rw[aF] at z3;unfold jF at z3;rw[h13];first|(exfalso;omega)|(go_wp2_with fail;go_roundw;(case rel=>exact Un.out _ _ _ (by go_num) HY Ab);(case measure=>simp[intOf];omega))
        ·have pX:(a.name==[111,119,110])=false:=abg aF
         first|(exfalso;omega)|(go_wp2_with fail;go_roundw;(case rel=>exact Un.out _ _ _ (by go_num) HY Ab);(case measure=>simp[intOf];omega))
       ·by_cases h1:1≤pz
        ·have h1i:(1:Int)≤(pz:Int):=U
         have h4i:¬(pz:Int)≤4:=U;first|(exfalso;omega)|(go_wp2_with fail;go_roundw;(case rel=>exact Un.out _ _ _ (by go_num) HY Ab);(case measure=>simp[intOf];omega))
        ·have h1i:¬(1:Int)≤(pz:Int):=U
         first|(exfalso;omega)|(go_wp2_with fail;go_roundw;(case rel=>exact Un.out _ _ _ (by go_num) HY Ab);(case measure=>simp[intOf];omega))
   ·obtain rfl:k=l.length:=U
    have bq:¬(l.length:Int)<(l.length:Int):=U;obtain⟨C,hg,hh⟩:=HG.out;have hI:=hg.ok U;have ho:=HG.out.open U;have DX:=ho;obtain⟨C',Ph,_⟩:=DX;have hI':=Ph.ok U;have k4:=HW.out.lift (HW.out.1.d8 hI U jF 0 1073741824 Z (HG.out.read nS));have k5:=fun (W:World) (h:WW w1 W wb fb b φ (9000000012+3000000000*l.length+3000000000))=>h.1.open hg U 64 Z
    have k6:=fun (W:World) fb' K (h:FW (fun k=>k=wb) w1 W fb' b (ng φ.st.j.d φ.l) K) (hK:K≤900000000000000000)=>h.d8 hI' hK jF 0 1073741824 Z (ho.read nS)
    have k7:=fun (W:World) fb' K (h:FW (fun k=>k=wb) w1 W fb' b (ng φ.st.j.d φ.l) K) (hK:K≤900000000000000000)=>h.append hI' hK jF [120] Z (ho.err [120])
    rw[e64] at k5;unfold jF at k4 k6 k7;have c1:=HW.out.cells.2;have K4:=Hd k4;have K5:=Hd k5;have K6:=Hd k6;have K7:=Hd k7;have uP:(t==t)=true:=acr t;clear k4 k5 k6 k7 hg hh hI Ph hI' ho HG xW HWF HKE;generalize ng φ.st.j.d φ.l=ψ at *;go_wp2_with fail;refine K4.out.mono ?_;rintro e w8 ⟨rfl,h8⟩;have c0:=h8.cells.1;have k5':=K5.out w8 h8;have K5':=Hd k5';clear h8 k5' c1 HW;go_wp2_with fail;refine K5'.out.mono ?_;rintro e w9 ⟨fb',rfl,h9,_⟩;have S9:=Hd h9;clear h9 c0 K5';go_wp2_with fail;refine(K6.out _ _ _ S9.out Z).mono ?_;rintro e w10 ⟨rfl,RH,_⟩;have S10:=Hd RH;clear RH S9;go_wp2_with fail;refine(K7.out _ _ _ S10.out Z).mono ?_;rintro e w11 ⟨rfl,ZP,_⟩;have S11:=Hd ZP;clear ZP S10;go_wp2_with fail;go_ret;exact⟨rfl,Q1.out.trans S11.out.q⟩
end
section
open Go.ChangeShapes Go.WideShapes Go.ChangeAt Go.RowKit Go.Deep
theorem yW(css:List (List Value))(sz:Nat)(h:∀c∈css,c.length=sz)(j:Nat)(u:Value)(hj:css.flatten[j]?=some u):∃i r c,css[i]?=some c∧c[r]?=some u∧j=i*sz+r∧r<sz:=by
 induction css generalizing j with
 | nil=>simp at hj
 | cons c css ih =>
  have hc:=h c κ;rw[VS] at hj;by_cases ay:j<c.length
  ·rw[TX ay] at hj
   exact⟨0,j,c,rfl,hj,U,U⟩
  ·rw[PH U] at hj
   obtain⟨i,r,c',h1,h2,h3,h4⟩:=ih (fun x hx=>h x (by simp[hx])) _ hj
   exact⟨i+1,r,c',by simpa using h1,h2,by rw[aeD];omega,h4⟩
theorem Vs(css:List (List Value))(sz:Nat)(h:∀c∈css,c.length=sz):css.flatten.length=css.length*sz:=by
 induction css with
 | nil=>simp
 | cons c css ih =>
  rw[VS,Δ,ih (fun x hx=>h x (by simp[hx])),h c κ,Mu,aeD];omega
section
variable {H:Type} {enc:TypeId×Value→H} {P:Program} {w:World} {base:Nat} {spare:Nat→Bool} {held:Bool}
theorem pg{α:Type}[Inhabited α]{t e:TypeId}(ht:P.underlying t=some (.slice e))(sz:Nat)(hC:P.cellsOf e=sz)(bP:0<sz)(R:List Value→α→Prop)
  (hR:∀n cs x,DataW.trod enc P w base spare held n e cs=some x→∃a,R cs a) {fuel:Nat} {v:Value} {x:DataW H×List MemPlace} (h:DataW.trod enc P w base spare held fuel t [v]=some x) :
  ∃(xs:List α) (css:List (List Value)),xs.length=css.length∧Sl w v xs.length sz css.flatten∧(∀(i:Nat) a c,css[i]?=some c→xs[i]?=some a→R c a)∧xs.length≤maxLen:=by
 rcases open_slice ht h with ⟨h0,_⟩|⟨a,len,cap,m,n,D,Pl,mQ,_,hl,hm,zX,_,hel⟩
 ·obtain rfl:v=.slice none 0 0:=by simpa using h0
  exact⟨[],[],rfl,Sl.nil _ _,fun i a c hc=>by simp at hc,κ⟩
 ·obtain rfl:v=.slice (some a) len cap:=by simpa using mQ
  have VZ:len≤m:=by rw[zX];split<;>omega
  have hex:∀i:Nat,∃p:List Value×α,i<len→(w.cells? base (a.add (i*sz)) sz=some p.1∧R p.1 p.2):=by
   intro i;by_cases hi:i<len
   ·obtain⟨cs',h1,h2⟩:=hel i U
    rw[hC] at h1;obtain⟨b,hb⟩:=hR _ _ _ h2;exact⟨(cs',b),fun _=>⟨h1,hb⟩⟩
   ·exact⟨([],default),fun h=>absurd h hi⟩
  obtain⟨f,hf⟩:=Classical.axiomOfChoice hex;have hlen:∀c∈(List.range len).map (fun i=>(f i).1),c.length=sz:=by
   intro c hc;obtain⟨i,hi,rfl⟩:=NF.1 hc;exact(World.cells?_some (hf i (Sa.1 hi)).1).2.1
  refine⟨(List.range len).map (fun i=>(f i).2),(List.range len).map (fun i=>(f i).1),κ,⟨?_,some a,cap,κ,fun hn=>?_⟩,fun i b c hc hb=>?_,by simp;omega⟩
  ·rw[Vs _ sz hlen];simp
  ·simp only[OK,Wb] at hn
   have h0:=(World.cells?_some (hf 0 hn).1).2.2 0 bP;obtain⟨b,off,spot⟩:=a;have uX:=(World.cells?_some (hf 0 hn).1).2.1;rw[Mp U] at h0;have afP:spot=none:=by simpa[Addr.add] using World.cell?_spot h0
   subst afP;refine⟨b,off,rfl,fun j u hj=>?_⟩
   obtain⟨i,r,c,h1,h2,h3,h4⟩:=yW _ sz hlen j u hj;rw[UB] at h1;cases hr:(List.range len)[i]? with
   | none=>rw[hr] at h1;cases h1
   | some i' =>
    rw[hr] at h1;cases h1;obtain⟨Cm,CX⟩:=Pi.1 hr;rw[ac1] at CX;subst CX;have:=(World.cells?_some (hf i (by simpa using Cm)).1).2.2 r h4
    rw[h2,oD,oD] at this;rw[h3,←P0];exact this
  ·rw[UB] at hc hb
   cases hr:(List.range len)[i]? with
   | none=>rw[hr] at hc;cases hc
   | some i' =>
    rw[hr] at hc hb;cases hc;cases hb;obtain⟨Cm,CX⟩:=Pi.1 hr;rw[ac1] at CX;subst CX;exact(hf i (by simpa using Cm)).2
end
end
section
open Go.ChangeShapes Go.WideShapes Go.ChangeAt Go.RowKit Go.Deep
instance Mo:Inhabited cJ:=⟨⟨0,0,0,[],[],[],0⟩⟩
section
variable {H:Type} {enc:TypeId×Value→H} {w:World} {base:Nat} {spare:Nat→Bool} {held:Bool}
theorem Yk(bs:List Bool)(css:List (List Value))(hl:bs.length=css.length)(h:∀(i:Nat) a c,css[i]?=some c→bs[i]?=some a→c=[Value.bool a]):css.flatten=bs.map .bool:=by
 induction bs generalizing css with
 | nil=>have:css=[]:=OS hl.symm;subst this;rfl
 | cons o bs ih =>
  cases css with
  | nil=>simp at hl
  | cons c css =>
   have h0:=h 0 o c rfl rfl;rw[VS,ih css (by simpa using hl) (fun i a c hc ha=>h (i+1) a c (by simpa using hc) (by simpa using ha)),h0]
   rfl
theorem open_bools{fuel:Nat}{v:Value}{x:DataW H×List MemPlace}(h:DataW.trod enc prog w base spare held fuel 38 [v]=some x):∃l:List Bool,Bools w v l∧l.length≤9223372036854775807:=by
 obtain⟨bs,css,hl,hs,hr,hm⟩:=pg (α:=Bool) underlying38 1 (by kernel_rfl) Z (fun cs b=>cs=[Value.bool b]) (fun n cs x h=>by
  obtain⟨b0,e0,_⟩:=DataW.trod_bool underlying4 h;exact⟨b0,e0⟩) h
 refine⟨bs,?_,by unfold maxLen at hm;exact hm⟩
 unfold Bools;rw[←Yk bs css hl hr];exact hs
def pM(w:World)(cs:List Value)(a:Value×cJ):Prop:=cs=[.int .i64 a.2.op,.int .i64 a.2.at_,.int .i64 a.2.n,ah a.2.name,ah a.2.tO,a.1,.int .u8 (a.2.byte.toNat:Nat)]∧Bools w a.1 a.2.keep∧a.2.Wf
theorem Ox{n:Nat}{cs:List Value}{x:DataW H×List MemPlace}(h:DataW.trod enc prog w base spare held n 40 cs=some x):∃a:Value×cJ,pM w cs a:=by
 have c3:prog.cellsOf 3=1:=by kernel_rfl
 have c9:prog.cellsOf 9=1:=by kernel_rfl
 have c23:prog.cellsOf 38=1:=by kernel_rfl
 have c8:prog.cellsOf 5=1:=by kernel_rfl
 have c27:prog.cellsOf 40=7:=by kernel_rfl
 obtain⟨xs,n',_,_,bL,Ac,hf⟩:=DataW.trod_struct underlying40 h;rw[c27] at bL;match cs,bL with
 | [a,b,c,d,e,f,g],_ =>
  have g0:DataW.trod enc prog w base spare held n' 3 (([a,b,c,d,e,f,g].drop 0).take (prog.cellsOf 3))=xs[0]?:=hf 0 _ rfl;rw[c3] at g0;have h0:DataW.trod enc prog w base spare held n' 3 [a]=xs[0]?:=g0;have g1:DataW.trod enc prog w base spare held n' 3 (([a,b,c,d,e,f,g].drop 1).take (prog.cellsOf 3))=xs[1]?:=hf 1 _ rfl;rw[c3] at g1;have h1:DataW.trod enc prog w base spare held n' 3 [b]=xs[1]?:=g1;have g2:DataW.trod enc prog w base spare held n' 3 (([a,b,c,d,e,f,g].drop 2).take (prog.cellsOf 3))=xs[2]?:=hf 2 _ rfl;rw[c3] at g2;have h2:DataW.trod enc prog w base spare held n' 3 [c]=xs[2]?:=g2;have g3:DataW.trod enc prog w base spare held n' 9 (([a,b,c,d,e,f,g].drop 3).take (prog.cellsOf 9))=xs[3]?:=hf 3 _ rfl;rw[c9] at g3;have h3:DataW.trod enc prog w base spare held n' 9 [d]=xs[3]?:=g3;have g4:DataW.trod enc prog w base spare held n' 9 (([a,b,c,d,e,f,g].drop 4).take (prog.cellsOf 9))=xs[4]?:=hf 4 _ rfl;rw[c9] at g4;have h4:DataW.trod enc prog w base spare held n' 9 [e]=xs[4]?:=g4;have g5:DataW.trod enc prog w base spare held n' 38 (([a,b,c,d,e,f,g].drop 5).take (prog.cellsOf 38))=xs[5]?:=hf 5 _ rfl;rw[c23] at g5;have h5:DataW.trod enc prog w base spare held n' 38 [f]=xs[5]?:=g5;have g6:DataW.trod enc prog w base spare held n' 5 (([a,b,c,d,e,f,g].drop 6).take (prog.cellsOf 5))=xs[6]?:=hf 6 _ rfl;rw[c8] at g6;have h6:DataW.trod enc prog w base spare held n' 5 [g]=xs[6]?:=g6;have mh:xs.length=7:=Ac;rw[Mp U] at h0 h1 h2 h3 h4 h5 h6;obtain⟨i0,e0,_,w0⟩:=DataW.trod_int underlying3 h0;obtain⟨i1,e1,_,w1⟩:=DataW.trod_int underlying3 h1;obtain⟨i2,e2,_,w2⟩:=DataW.trod_int underlying3 h2;obtain⟨b3,e3,_,w3⟩:=DataW.trod_string underlying9 h3;obtain⟨b4,e4,_,w4⟩:=DataW.trod_string underlying9 h4;obtain⟨bs,hb,hw⟩:=open_bools h5;obtain⟨i6,e6,_,w6⟩:=DataW.trod_int underlying5 h6;cases e0;cases e1;cases e2;cases e3;cases e4;cases e6;have hb8:=bounds_u8 w6;refine⟨(f,⟨i0,i1,i2,b3.data.toList,b4.data.toList,bs,UInt8.ofNat i6.toNat⟩),?_,hb,⟨bounds_i64 w0,bounds_i64 w1,bounds_i64 w2,hw,?_,?_⟩⟩
  ·have:((UInt8.ofNat i6.toNat).toNat:Int)=i6:=by rw[abR,PQ U];omega
   simp only[this]
  ·exact w3
  ·exact w4
theorem Yl(al:List (Value×cJ))(css:List (List Value))(w:World)(hl:al.length=css.length)(h:∀(i:Nat) a c,css[i]?=some c→al[i]?=some a→pM w c a):css.flatten=qo (al.map (·.1)) (al.map (·.2)):=by
 induction al generalizing css with
 | nil=>have:css=[]:=OS hl.symm;subst this;rfl
 | cons o al ih =>
  cases css with
  | nil=>simp at hl
  | cons c css =>
   have h0:=(h 0 o c rfl rfl).1;rw[VS,ih css (by simpa using hl) (fun i a c hc ha=>h (i+1) a c (by simpa using hc) (by simpa using ha)),h0]
   simp[qo]
theorem open_acts9{fuel:Nat}{v:Value}{x:DataW H×List MemPlace}(h:DataW.trod enc prog w base spare held fuel 22 [v]=some x):∃l:List cJ,Acts9 w v l∧Acts9Wf l:=by
 obtain⟨al,css,hl,hs,hr,hm⟩:=pg (α:=Value×cJ) underlying22 7 (by kernel_rfl) Z (pM w) (fun n cs x h=>Ox h) h
 refine⟨al.map (·.2),⟨al.map (·.1),κ,?_,fun i a b ha hb=>?_⟩,by unfold maxLen at hm;simpa using hm,fun a ha=>?_⟩
 ·rw[OK,←Yl al css w hl hr];exact hs
 ·rw[UB] at ha hb
  cases hi:al[i]? with
  | none=>rw[hi] at ha;cases ha
  | some y =>
   rw[hi] at ha hb;cases ha;cases hb;have Cm:=(Pi.1 hi).1;exact(hr i y _ (Mp U) hi).2.1
 ·obtain⟨y,hy,rfl⟩:=NF.1 ha
  obtain⟨i,hi⟩:=List.getElem?_of_mem hy;have Cm:=(Pi.1 hi).1;exact(hr i y _ (Mp U) hi).2.2
theorem open_act9{n:Nat}{cs:Array Value}{x:DataW H×List MemPlace}(h:DataW.trod enc prog w base spare held n 40 cs.toList=some x):∃a:cJ,ActA w (.agg cs) a∧a.Wf:=by
 obtain⟨a,hc,hb,hw⟩:=Ox h;refine⟨a.2,⟨a.1,?_,hb⟩,hw⟩;unfold ll;congr 1;exact Array.ext' hc
end
end
section
open Go.ChangeShapes Go.WideShapes Go.ChangeAt Go.RowKit
abbrev laidL:List (String×DataW Unit):=[("unicode/utf8.acceptRanges",Rows.laid_unicode_utf8_acceptRanges),("unicode/utf8.first",Rows.laid_unicode_utf8_first)]
end
end Go.Proofs.YtonlbpljghohmaaGreatDoor
