/- Joined: WRef4d to WRef4f -/
import Derived.Test.YtbkahhebmpehnaaGreatDoorCXWRef3d
import Derived.Test.YtbkahhebmpehnaaGreatDoorCXWJrnJ
set_option linter.all false
set_option maxRecDepth 100000
set_option maxHeartbeats 8000000
namespace Go.Proofs.YtbkahhebmpehnaaGreatDoor
open Go.Proofs.Tryz
section
open Go.RowKit
theorem Hp(j:JL)(ws:List WrL)(k:Nat)(h:k<ws.length):(j.ed ws)[k]?=some (j.place (k+1),ws[k].2):=by
 unfold JL.ed;rw[SR,aea,Tb (by simpa using h)]
 simp[h]
theorem Ex(j:JL)(ws:List WrL):(j.ed ws)[ws.length]?=some (j.place (ws.length+1),ag):=by
 unfold JL.ed;rw[SR,aea,OF κ];simp
theorem wv(j:JL)(ws:List WrL):(j.ed ws).length=ws.length+1:=by simp[JL.ed]
theorem drop_at{α:Type}{l:List α}{k:Nat}{x:α}(h:l[k]?=some x):l.drop k=x::l.drop (k+1):=by
 obtain⟨hk,rfl⟩:=NX.1 h;exact PQ hk
def JL.eL(j:JL)(ws:List WrL):af×Int:=if (j.cj ws).2≠0 then j.cj ws else j.cJ ws
theorem Rp(w:World)(F:Nat→Prop)(p b:Nat)(j:JL)(lv:Value)(ws:List WrL)(h:bp w F p b j)(hn:fW j)(hw:sS ws)(hl:SlO w F lv (ws.length+1) 1 ((jG j.next ws).map ah)):
  Calls prog 179 #[au p,lv] w fun e w'=>e=.returned (.int .i64 (j.eL ws).2)∧bp w' (grow F w w') p b { j with d:=(j.eL ws).1 }∧ae F w w':=by
 obtain⟨la,lc,rfl,lX⟩:=hl.value;have aP:∀k (hk:k<ws.length),∃lb lo,la=some ⟨lb,lo,none⟩∧lb<w.heap.size∧¬F lb∧w.cell? ⟨lb,lo+(k+1),none⟩=some (ah ws[k].2)∧w.cell? ⟨lb,lo,none⟩=some (ah (bK j.next ws)):=fun k hk=>by
  obtain⟨lb,lo,h1,h2,h3,h4⟩:=lX U;refine⟨lb,lo,h1,h2,h3,h4 (k+1) (ah ws[k].2) ?_,by have:=h4 0 (ah (bK j.next ws)) (by simp[jG]);rwa [UI] at this⟩
  simp[jG,hk]
 have acj:∀k (hk:k<ws.length),ws[k].2.length=256:=fun k hk=>(hw.2.2 _ (LO hk)).2
 have h1:=hw.1;have h2:=hw.2.1;have bI:=fun (W:World)=>xB W
 have bW:=fun (W:World) (G:Nat→Prop) (d2:af) (hW:Blk W p 174 (jd b { j with d:=d2 })) (i:Nat) (hi:i≤100)=>(show Calls prog 244 #[au p,.int .i64 (IntKind.i64.wrap ((j.used:Int)+(i:Int)))] W fun e w'=>e=.returned (.int .i64 (j.place i:Nat))∧Q W w' from by
  rw[IntWalk.i64_in _ (by have:=hn.used;omega),show(j.used:Int)+(i:Int)=((j.used+i:Nat):Int) by omega]
  exact Ay W p b { j with d:=d2 } (j.used+i) hW hn.log hn.log2 hn.place (by have:=hn.used;omega))
 have bQ:=hn.ok;have u7:=hn.eJ;have ay:=h.lt;have HC:=Hd aP;have HL:=Hd acj;have dY:=Hd bI;have zJ:=Hd bW;have HN:=Hd hn;have iI:=Hd ay;have HJ:=Hd h;clear aP acj bI bW hn ay h lX hl hw bQ u7;go_enter func179,ntmps179;go_wp2_with fail;go_loopw [5] (fun v wr=>∃(k:Nat) (d2:af),v=.int .i64 ((k+1:Nat):Int)∧k≤ws.length∧Hid (j.d.writes (j.ed ws)=d2.writes ((j.ed ws).drop k))∧Hid (bp wr (grow F w wr) p b { j with d:=d2 })∧Hid (ae F w wr)∧Hid d2.Ok∧Hid (d2.dead=false→d2.p.length≤900000+k)) (fun v _=>ws.length+1-(intOf v).toNat)
 case atStart=>exact⟨0,j.d,rfl,L0 _,by rw[QQ];exact Hd rfl,HJ.out.mono (fun _ h=>oJ h) (fun k hk=>hk.elim (fun hk=>iI.out k hk) (fun hk=>hk.2)),ae.refl _ _,HN.out.ok,HN.out.eJ⟩
 case round =>
  obtain⟨k,d2,rfl,hk,HE,jU,fG,tY,kX⟩:=hrel;by_cases ay:k<ws.length
  ·have bq:((k+1:Nat):Int)<(ws.length:Int)+1:=U
   have EP:(0:Int)≤((k+1:Nat):Int):=U;obtain⟨lb,lo,rfl,OJ,qK,x1,x2⟩:=HC.out k ay;have y1:=fG.out.cell (F:=F) x1 qK;have he:=HE.out;rw[drop_at (Hp j ws k ay),af.writes] at he;simp only at he;have gV:=HL.out k ay;have eO:=jU.out.write tY.out (fun hx=>by have h1:=kX.out hx;show d2.p.length≤_;omega) (j.place (k+1):Nat) ws[k].2 (by rw[gV];omega)
   simp only at eO;have bQ:=af.eI tY.out (j.place (k+1):Nat) ws[k].2;have gK:(d2.write (j.place (k+1):Nat) ws[k].2).1.dead=false→(d2.write (j.place (k+1):Nat) ws[k].2).1.p.length≤900000+(k+1):=fun hx=>by
    have h1:=kX.out (af.eh _ _ _ hx);have h2:=af.ff d2 (j.place (k+1):Nat) ws[k].2;omega
   have Ii:((k+1:Nat):Int)=(k:Int)+1:=U;have bW:∀(W:World),Q wr W→Calls prog 244 #[au p,.int .i64 (IntKind.i64.wrap ((j.used:Int)+((k:Int)+1)))] W fun e w'=>e=.returned (.int .i64 (j.place (k+1):Nat))∧Q W w':=fun W q=>by have:=zJ.out W F d2 (jU.out.box.stays q) (k+1) U;rwa [Ii] at this
   obtain⟨c0,c1,c2,c3,c4,c5,c6,c7⟩:=jU.out.box.c8;simp only at c0 c7;have C9:¬grow F w wr lb:=fun hc=>hc.elim qK (fun hc=>U)
   generalize Hl:d2.write (j.place (k+1):Nat) ws[k].2=dw at *;generalize zC:ws[k].2=dk at *;generalize j.place (k+1)=pk at *;have kY:=Hd bW;have BD:=Hd eO;have kI:=Hd he;have pq:=Hd bQ;have sO:=Hd gK;have rW:=Hd C9;have KK:=Hd (Q.refl wr);clear bW eO he bQ gK Hl zC x1 x2 c1 c2 c3 c4 c5 c6 gV C9;have Dw:(k:Int)+1<(ws.length:Int)+1:=U;have aeY:(0:Int)≤(k:Int)+1:=U;have tX:((k:Int)+1).toNat=k+1:=U;clear bq EP Ii;go_wp2_with fail;go_region_held3 (fun w'=>w'.cell? ⟨p,0,none⟩=some (au b)∧w'.cell? ⟨p,7,none⟩=some (.int .i64 (j.used:Nat))∧w'.cell? ⟨lb,lo+(k+1),none⟩=some (ah dk))
    (first|exact g0|exact⟨c0,c7,y1⟩|exact three δ c0 c7 y1)
    (first
     | (go_at_call 244;with_reducible refine(kY.out _ ω).mono ?_;rintro e w1 ⟨rfl,q1⟩;have s':Q wr w1:=Q.trans ω q1;clear KK;have KK:=Hd s';clear s' q1)
     | (go_at_call 170;with_reducible refine(BD.out _ ω).mono ?_;rintro e w3 ⟨rfl,h3,t3⟩;have g:=Blk.c8 (bp.box h3);have g0:=And.intro g.1 (And.intro g.2.2.2.2.2.2.2 (ae.cell t3 y1 rW.out));clear g;have H3:=Hd h3;have T3:=Hd t3;clear h3 t3))
   all_goals
    have mV:=bp.next iI.out fG.out H3.out T3.out;have gF:=Hd mV.1;have rP:=Hd mV.2;clear mV c0 c7 y1;try clear g0
    by_cases hz:dw.2=0
    ·have hb:(dw.2==0)=true:=MY.2 hz
     have eX:=kI.out;rw[Φ hz] at eX;have tV:=Hd eX;clear eX kI hz;go_wp2_with fail;go_roundw;case rel=>exact⟨k+1,dw.1,by go_num,U,tV,gF,rP,pq,sO⟩
     case measure=>simp[intOf];omega
    ·have hb:(dw.2==0)=false:=Γ.2 hz
     have eX:=kI.out;rw[η hz] at eX;have mU:j.eL ws=dw:=by
      unfold JL.eL JL.cj af.lays;rw[eX,η hz,Φ hz]
     have BI:=Hd mU;clear eX kI hz mU;go_wp2_with fail;go_ret;rw[BI.out];exact⟨rfl,gF.out,rP.out⟩
  ·obtain rfl:k=ws.length:=U
   have bq:¬((ws.length+1:Nat):Int)<(ws.length:Int)+1:=U;obtain⟨lb,lo,rfl,OJ,qK,x1,x2⟩:=HC.out 0 U;have y2:=fG.out.cell (F:=F) x2 qK;have he:=HE.out;rw[drop_at (Ex j ws),af.writes,Wk (by rw[wv];exact Ω _)] at he
   simp only[af.writes] at he;have hhl:(bK j.next ws).length=256:=nD _ _ h2;have eO:=jU.out.write tY.out (fun hx=>by have h1:=kX.out hx;show d2.p.length≤_;omega) (j.place (ws.length+1):Nat) ag (by rw[jk];omega)
   simp only at eO;have bQ:=af.eI tY.out (j.place (ws.length+1):Nat) ag;have gK:(d2.write (j.place (ws.length+1):Nat) ag).1.dead=false→(d2.write (j.place (ws.length+1):Nat) ag).1.p.length≤900100:=fun hx=>by
    have h1:=kX.out (af.eh _ _ _ hx);have h2:=af.ff d2 (j.place (ws.length+1):Nat) ag;omega
   have Ii:((ws.length+1:Nat):Int)=(ws.length:Int)+1:=U;have bW:∀(W:World),Q wr W→Calls prog 244 #[au p,.int .i64 (IntKind.i64.wrap ((j.used:Int)+((ws.length:Int)+1)))] W fun e w'=>e=.returned (.int .i64 (j.place (ws.length+1):Nat))∧Q W w':=fun W q=>by have:=zJ.out W F d2 (jU.out.box.stays q) (ws.length+1) U;rwa [Ii] at this
   obtain⟨c0,c1,c2,c3,c4,c5,c6,c7⟩:=jU.out.box.c8;simp only at c0 c7;have C9:¬grow F w wr lb:=fun hc=>hc.elim qK (fun hc=>U)
   generalize hdA:d2.write (j.place (ws.length+1):Nat) ag=dA at *;generalize j.place (ws.length+1)=pk at *;have kY:=Hd bW;have BD:=Hd eO;have kI:=Hd he;have pq:=Hd bQ;have sO:=Hd gK;have rW:=Hd C9;have KK:=Hd (Q.refl wr);have HHL:=Hd hhl;clear bW eO he bQ gK hdA x1 x2 c1 c2 c3 c4 c5 c6 C9 Ii hhl HE;go_wp2_with fail;go_region_held3 (fun w'=>w'.cell? ⟨p,0,none⟩=some (au b)∧w'.cell? ⟨p,7,none⟩=some (.int .i64 (j.used:Nat)))
    (first|exact g0|exact⟨c0,c7⟩|exact two δ c0 c7)
    (first
     | (go_at_call 244;with_reducible refine(kY.out _ ω).mono ?_;rintro e w1 ⟨rfl,q1⟩;have s':Q wr w1:=Q.trans ω q1;clear KK;have KK:=Hd s';clear s' q1)
     | (go_at_call 51;with_reducible refine(dY.out _).mono ?_;rintro e w2 ⟨rfl,q2⟩;have s':Q wr w2:=Q.trans ω q2;clear KK;have KK:=Hd s';clear s' q2)
     | (go_at_call 170;with_reducible refine(BD.out _ ω).mono ?_;rintro e w3 ⟨rfl,h3,t3⟩;have g:=Blk.c8 (bp.box h3);have g0:=And.intro g.1 g.2.2.2.2.2.2.2;clear g;have H3:=Hd h3;have T3:=Hd t3;clear h3 t3))
   all_goals
    have y3:=T3.out.cell y2 rW.out;have mV:=bp.next iI.out fG.out H3.out T3.out;have gF:=Hd mV.1;have rP:=Hd mV.2;clear mV c0 c7 y2;try clear g0
    by_cases uj:dA.2=0;case neg =>
     have e1:(dA.2==0)=false:=Γ.2 uj;have eX:=kI.out;rw[η uj] at eX;have mU:j.eL ws=dA:=by
      unfold JL.eL JL.cj af.lays;rw[eX,η uj,Φ uj]
     have BI:=Hd mU;clear eX uj mU;go_wp2_with fail;go_ret;rw[BI.out];exact⟨rfl,gF.out,rP.out⟩
    have e1:(dA.2==0)=true:=MY.2 uj;have eX:=kI.out;rw[Φ uj] at eX;have SN:j.cj ws=dA.1.bw:=by
     unfold JL.cj af.lays;rw[eX,Φ rfl]
    have T9:=gF.out.bw pq.out (fun hx=>by have h1:=sO.out hx;show dA.1.p.length≤_;omega) w3 (Q.refl _)
    have KD:=af.li pq.out;have Ua:dA.1.bw.1.dead=false→dA.1.bw.1.p.length≤900100:=fun hx=>by
     have:=sO.out (af.j7 _ hx);have:=af.mf dA.1;omega
    simp only at T9 KD Ua;generalize dA.1.bw=dB at *;obtain⟨k0,_⟩:=gF.out.box.c8;have pJ:=Hd SN;have HFB:=Hd T9;have Ub:=Hd KD;have HPB:=Hd Ua;have ae6:¬grow F w w3 lb:=fun hc=>hc.elim qK (fun hc=>U)
    have ajd:=Hd ae6;clear eX uj T9 KD Ua kI SN ae6;go_wp2_with fail;refine HFB.out.mono ?_;rintro e w4 ⟨rfl,h4,t4⟩;have y4:=t4.cell y3 ajd.out;have kZ:=bp.next iI.out rP.out h4 t4;have H4:=Hd kZ.1;have T4:=Hd kZ.2;clear kZ h4 t4 k0 y3;by_cases Ei:dB.2=0;case neg =>
     have e2:(dB.2==0)=false:=Γ.2 Ei;have mU:j.eL ws=dB:=by
      unfold JL.eL;rw[pJ.out,Φ Ei]
     have BI:=Hd mU;clear Ei mU;go_wp2_with fail;go_ret;rw[BI.out];exact⟨rfl,H4.out,T4.out⟩
    have e2:(dB.2==0)=true:=MY.2 Ei;have YV:j.eL ws=dB.1.lays [(j.place 0,bK j.next ws)]:=by
     unfold JL.eL JL.cJ;rw[pJ.out,η (by rw[Ei];simp)]
    rw[Ro] at YV;simp only at YV;have gD:=H4.out.write Ub.out (fun hx=>by have h1:=HPB.out hx;show dB.1.p.length≤_;omega) (j.place 0:Nat) (bK j.next ws) (by rw[HHL.out];omega)
    simp only at gD;have Bg:=af.eI Ub.out (j.place 0:Nat) (bK j.next ws);have Ko:(dB.1.write (j.place 0:Nat) (bK j.next ws)).1.dead=false→(dB.1.write (j.place 0:Nat) (bK j.next ws)).1.p.length≤900200:=fun hx=>by
     have h1:=HPB.out (af.eh _ _ _ hx);have h2:=af.ff dB.1 (j.place 0:Nat) (bK j.next ws);omega
    have ae7:∀(W:World),Q w4 W→Calls prog 244 #[au p,.int .i64 (j.used:Nat)] W fun e w'=>e=.returned (.int .i64 (j.place 0:Nat))∧Q W w':=fun W q=>by
     have:=Ay W p b { j with d:=dB.1 } j.used (H4.out.box.stays q) HN.out.log HN.out.log2 HN.out.place (by have:=HN.out.used;omega)
     exact this
    obtain⟨c0,c1,c2,c3,c4,c5,c6,c7⟩:=H4.out.box.c8;simp only at c0 c7;generalize dB.1.write (j.place 0:Nat) (bK j.next ws)=dC at *;generalize bK j.next ws=hd at *;generalize j.place 0=p0 at *;have aje:=Hd ae7;have Ms:=Hd gD;have ae8:=Hd YV;have aa0:=Hd Bg;have RL:=Hd Ko;clear ae7 gD YV Bg Ko c1 c2 c3 c4 c5 c6 Ei KK pJ;have KK:=Hd (Q.refl w4);have ae9:¬grow F w w4 lb:=fun hc=>hc.elim qK (fun hc=>U)
    have ajf:=Hd ae9;have qL:(0:Int)<(ws.length:Int)+1:=U;clear ae9;go_wp2_with fail;go_region_held3 (fun w'=>w'.cell? ⟨p,0,none⟩=some (au b)∧w'.cell? ⟨p,7,none⟩=some (.int .i64 (j.used:Nat))∧w'.cell? ⟨lb,lo,none⟩=some (ah hd))
     (first|exact g0|exact⟨c0,c7,y4⟩|exact three δ c0 c7 y4)
     (first
      | (go_at_call 244;with_reducible refine(aje.out _ ω).mono ?_;rintro e w5 ⟨rfl,q5⟩;have s':Q w4 w5:=Q.trans ω q5;clear KK;have KK:=Hd s';clear s' q5)
      | (go_at_call 170;with_reducible refine(Ms.out _ ω).mono ?_;rintro e w6 ⟨rfl,h6,t6⟩;have g:=Blk.c8 (bp.box h6);have g0:=And.intro g.1 (And.intro g.2.2.2.2.2.2.2 (ae.cell t6 y4 ajf.out));clear g;have H6:=Hd h6;have T6:=Hd t6;clear h6 t6))
    all_goals
     have JK:=bp.next iI.out T4.out H6.out T6.out;have V8:=Hd JK.1;have VE:=Hd JK.2;clear JK c0 c7 y4;try clear g0
     by_cases Ej:dC.2=0;case neg =>
      have e3:(dC.2==0)=false:=Γ.2 Ej;have mU:=ae8.out;rw[η Ej] at mU;have BI:=Hd mU;clear Ej mU;go_wp2_with fail;go_ret;rw[BI.out];exact⟨rfl,V8.out,VE.out⟩
     have e3:(dC.2==0)=true:=MY.2 Ej;have mU:=ae8.out;rw[Φ Ej] at mU;have Ud:=V8.out.bw aa0.out (fun hx=>by have h1:=RL.out hx;show dC.1.p.length≤_;omega) w6 (Q.refl _)
     simp only at Ud;generalize dC.1.bw=dD at *;obtain⟨k0,_⟩:=V8.out.box.c8;have BI:=Hd mU;have HFD:=Hd Ud;clear mU Ud Ej;go_wp2_with fail;refine HFD.out.mono ?_;rintro e w7 ⟨rfl,h7,t7⟩;have Mj:=bp.next iI.out VE.out h7 t7;have Wn:=Hd Mj;clear Mj h7 t7 k0;go_wp2_with fail;go_ret;rw[BI.out];exact⟨rfl,Wn.out.1,Wn.out.2⟩
theorem cn.next{A B C:World}{F:Nat→Prop}{b:Nat}{d:af}(t1:ae F A B)(h:cn C (grow (grow F A B) B C) b d)(t2:ae (grow F A B) B C):cn C (grow F A C) b d∧ae F A C:=by
 have t:=t1.step t2;exact⟨h.mono (fun k hk=>lZ t1.size t2.size hk),t⟩
theorem cn.quietly{A B C:World}{F:Nat→Prop}{b:Nat}{d:af}(q:Q A B)(h:cn C (grow F B C) b d)(t2:ae F B C):cn C (grow F A C) b d∧ae F A C :=
 ⟨h.mono (fun k hk=>hk.elim .inl (fun hk=>.inr ⟨LS q.size hk.1,hk.2⟩)),(ae.br q).trans t2⟩
theorem X8(log k:Nat)(h:k<log+1):(cZ log)[k]?=some (k+1,ag):=by
 unfold cZ;rw[Tb (by simpa using h)]
 simp[h]
theorem Vj(log:Nat):(cZ log)[log+1]?=some (0,aQ ⟨1,1,log,0⟩):=by
 unfold cZ;rw[OF κ];simp
theorem Vk(log:Nat):(cZ log).length=log+2:=by simp[cZ]
theorem Rq(w:World)(F:Nat→Prop)(b:Nat)(d:af)(log:Nat)(h:cn w F b d)(hd:d.Ok)(hp:d.dead=false→d.p.length≤800000)(yx:50≤log)(fT:log+3≤d.l.length):
  Calls prog 96 #[au b,.int .i64 (log:Nat)] w fun e w'=>e=.returned (.int .i64 (aO d log).2)∧cn w' (grow F w w') b (aO d log).1∧ae F w w':=by
 have hm:=hd.max;have bI:=fun (W:World)=>xB W
 have aC:=fun (W:World)=>EM ⟨1,1,log,0⟩ ⟨by show 1<_;omega,by show 1<_;omega,by show log<_;omega,by show 0<_;omega⟩ W
 have mG:¬(log:Int)<50:=U;have zu:IntKind.i64.wrap ((d.l.length:Int)-3)=(d.l.length:Int)-3:=IntWalk.i64_in _ U;have fF:¬(d.l.length:Int)-3<(log:Int):=U;have Ck:aO d log=d.lays (cZ log):=rfl;have h0:cn w (grow F w w) b d:=h.mono (fun k hk=>.inl hk)
 obtain⟨lv,pv,hg⟩:=h;obtain⟨la,lc,rfl,-⟩:=hg.gt;obtain⟨c0,c1,c2,c3,_⟩:=hg.box.c4;have dY:=Hd bI;have aX:=Hd aC;have Mi:=Hd Ck;have H0:=Hd h0;have HD:=Hd hd;have HP:=Hd hp;have VZ:log≤4096:=U;clear bI aC Ck h0 hd hp hg;go_enter func96,ntmps96;go_wp2_with fail;go_loopw [5] (fun v wr=>∃(k:Nat) (d2:af),v=.int .i64 ((k+1:Nat):Int)∧k≤log+1∧Hid (d.writes (cZ log)=d2.writes ((cZ log).drop k))∧Hid (cn wr (grow F w wr) b d2)∧Hid (ae F w wr)∧Hid d2.Ok∧Hid (d2.dead=false→d2.p.length≤800000+k)) (fun v _=>log+2-(intOf v).toNat)
 case atStart=>exact⟨0,d,rfl,L0 _,by rw[QQ];exact Hd rfl,H0,ae.refl _ _,HD,HP⟩
 case round =>
  obtain⟨k,d2,rfl,hk,HE,jU,fG,tY,kX⟩:=hrel;by_cases ay:k<log+1
  ·have he:=HE.out
   rw[drop_at (X8 log k ay),af.writes] at he;simp only at he;have eO:=fun (W:World) (q:Q wr W)=>EL W _ b d2 ((k+1:Nat):Int) ag (jU.out.keep q) tY.out (fun hx=>by have:=kX.out hx;omega) (by rw[jk];omega)
   have bQ:=af.eI tY.out ((k+1:Nat):Int) ag;have gK:(d2.write ((k+1:Nat):Int) ag).1.dead=false→(d2.write ((k+1:Nat):Int) ag).1.p.length≤800000+(k+1):=fun hx=>by
    have h1:=kX.out (af.eh _ _ _ hx);have h2:=af.ff d2 ((k+1:Nat):Int) ag;omega
   generalize Hl:d2.write ((k+1:Nat):Int) ag=dw at *;have Ii:((k+1:Nat):Int)=(k:Int)+1:=U;rw[Ii] at eO;have BD:=Hd eO;have kI:=Hd he;have pq:=Hd bQ;have sO:=Hd gK;have bq:(k:Int)+1<2+(log:Int):=U;clear eO he bQ gK Hl Ii;go_wp2_with fail;refine(dY.out _).mono ?_;rintro e w1 ⟨rfl,q1⟩;have dF:=Hd q1;clear q1;go_wp2_with fail;refine(BD.out _ dF.out).mono ?_;rintro e w3 ⟨rfl,h3,t3⟩;have hq:=cn.quietly dF.out h3 t3;have mV:=cn.next fG.out hq.1 hq.2;have gF:=Hd mV.1;have rP:=Hd mV.2;clear mV hq h3 t3;by_cases hz:dw.2=0
   ·have hb:(dw.2==0)=true:=MY.2 hz
    have eX:=kI.out;rw[Φ hz] at eX;have tV:=Hd eX;clear eX kI hz;go_wp2_with fail;go_roundw;case rel=>exact⟨k+1,dw.1,by go_num,U,tV,gF,rP,pq,sO⟩
    case measure=>simp[intOf];omega
   ·have hb:(dw.2==0)=false:=Γ.2 hz
    have eX:=kI.out;rw[η hz] at eX;have mU:aO d log=dw:=by
     rw[Mi.out];unfold af.lays;rw[eX,η hz]
    have BI:=Hd mU;clear eX kI hz mU;go_wp2_with fail;go_ret;rw[BI.out];exact⟨rfl,gF.out,rP.out⟩
  ·obtain rfl:k=log+1:=U
   have bq:¬((log+1+1:Nat):Int)<2+(log:Int):=U;have Dw:¬(log:Int)+1+1<2+(log:Int):=U;have he:=HE.out;rw[drop_at (Vj log),af.writes,Wk (by rw[Vk];exact Ω _)] at he
   simp only[af.writes] at he;have eO:=fun (W:World) (q:Q wr W)=>EL W _ b d2 ((0:Nat):Int) (aQ ⟨1,1,log,0⟩) (jU.out.keep q) tY.out (fun hx=>by have:=kX.out hx;omega) (by rw[gB];omega)
   have bQ:=af.eI tY.out ((0:Nat):Int) (aQ ⟨1,1,log,0⟩);have gK:(d2.write ((0:Nat):Int) (aQ ⟨1,1,log,0⟩)).1.dead=false→(d2.write ((0:Nat):Int) (aQ ⟨1,1,log,0⟩)).1.p.length≤900000:=fun hx=>by
    have h1:=kX.out (af.eh _ _ _ hx);have h2:=af.ff d2 ((0:Nat):Int) (aQ ⟨1,1,log,0⟩);omega
   rw[show((0:Nat):Int)=0 from rfl] at eO
   rw[show((0:Nat):Int)=0 from rfl] at bQ gK he
   generalize d2.write 0 (aQ ⟨1,1,log,0⟩)=dA at *;generalize aQ ⟨1,1,log,0⟩=st at *;have BD:=Hd eO;have kI:=Hd he;have pq:=Hd bQ;have sO:=Hd gK;clear eO he bQ gK HE;go_wp2_with fail;refine(aX.out _).mono ?_;rintro e w1 ⟨rfl,q1⟩;have dF:=Hd q1;clear q1;go_wp2_with fail;refine(BD.out _ dF.out).mono ?_;rintro e w3 ⟨rfl,h3,t3⟩;have hq:=cn.quietly dF.out h3 t3;have mV:=cn.next fG.out hq.1 hq.2;have gF:=Hd mV.1;have rP:=Hd mV.2;clear mV hq h3 t3;by_cases uj:dA.2=0;case neg =>
    have e1:(dA.2==0)=false:=Γ.2 uj;have eX:=kI.out;rw[η uj] at eX;have mU:aO d log=dA:=by
     rw[Mi.out];unfold af.lays;rw[eX,η uj]
    have BI:=Hd mU;clear eX kI uj mU;go_wp2_with fail;go_ret;rw[BI.out];exact⟨rfl,gF.out,rP.out⟩
   have e1:(dA.2==0)=true:=MY.2 uj;have eX:=kI.out;rw[Φ uj] at eX;have mU:aO d log=dA.1.bw:=by
    rw[Mi.out];unfold af.lays;rw[eX,Φ rfl]
   have kG:=Lu w3 _ b dA.1 gF.out pq.out (fun hx=>by have:=sO.out hx;omega)
   generalize dA.1.bw=dB at *;have BI:=Hd mU;have xM:=Hd kG;clear eX kI uj mU kG;go_wp2_with fail;refine xM.out.mono ?_;rintro e w4 ⟨rfl,h4,t4⟩;have kZ:=cn.next rP.out (h4.mono (fun k hk=>.inl hk)) t4
   have Z4:=Hd kZ;clear kZ h4 t4;go_wp2_with fail;go_ret;rw[BI.out];exact⟨rfl,Z4.out.1,Z4.out.2⟩
theorem SlO.lt{w w':World}{F:Nat→Prop}{base:Nat}{e:TypeId}{size:Nat}{v:Value}{n:Nat}{xs:List Value}(h:w.ownsRow base e size v n xs)(t:ae F w w')(hF:∀k,F k→k<base):SlO w' (grow F w w') v n size xs:=by
 have h2:SlO w F v n size xs:=by
  refine⟨Sl.cx h,fun hn=>?_⟩
  rcases h.2 with ⟨_,h2⟩|⟨g,cap,cur,rfl,bN,hg,rest⟩
  ·omega
  ·exact⟨g,0,⟨cap,rfl⟩,(Sp.1 hg).1,fun e=>by have:=hF g e;omega⟩
 exact h2.keep t
theorem Rs(j:JL)(ws:List WrL)(h:(j.eL ws).2≠0):j.com ws=({ j with d:=(j.eL ws).1 },(j.eL ws).2):=by
 unfold JL.eL at h ⊢;unfold JL.com;by_cases h1:(j.cj ws).2≠0
 ·rw[Φ h1,Φ h1]
 ·rw[η h1] at h
  rw[η h1,η h1,Φ h]
theorem Oo(j:JL)(ws:List WrL)(h:(j.eL ws).2=0):j.eL ws=j.cJ ws∧j.com ws=(({ j with d:=((j.eL ws).1.writes ws).1 }:JL).advance ws.length,((j.eL ws).1.writes ws).2):=by
 unfold JL.eL at h ⊢;unfold JL.com JL.eS;by_cases h1:(j.cj ws).2≠0
 ·rw[Φ h1] at h;exact absurd h h1
 ·rw[η h1] at h
  rw[η h1,η h1,η (by rw[h];simp)]
  exact⟨rfl,rfl⟩
theorem oc{j:JL}(hn:fW j)(ws:List WrL):(j.eL ws).1.Ok∧((j.eL ws).2=0→(j.eL ws).1.p=[]):=by
 have h1:(j.cj ws).1.Ok:=af.dm hn.ok _;have h2:(j.cJ ws).1.Ok:=af.dm h1 _;unfold JL.eL;split
 ·rename_i h;exact⟨h1,fun e=>absurd e h⟩
 ·exact⟨h2,fun e=>ql e⟩
theorem Jm(w:World)(F:Nat→Prop)(p b:Nat)(j:JL)(lv:Value)(ws:List WrL)(h:bp w F p b j)(hn:fW j)(hw:sS ws)(hh:∀x∈ws,j.home≤x.1∧x.1<j.d.l.length)(hl:SlO w F lv ws.length 2 (aN ws))(hu:j.used≤j.s.log):
  Calls prog 100 #[au p,lv] w fun e w'=>e=.returned (.int .i64 (j.bj ws).2)∧bp w' (grow F w w') p b (j.bj ws).1∧ae F w w':=by
 have fV:=tE w j.next hn.next lv ws hl.1 hw;have ay:=h.lt;have hmax:=hn.ok.max;obtain⟨la,lc,rfl,lX⟩:=hl.value;have aP:∀k (hk:k<ws.length),∃lb lo,la=some ⟨lb,lo,none⟩∧lb<w.heap.size∧¬F lb∧w.cell? ⟨lb,lo+k*2,none⟩=some (.int .i64 (ws[k].1:Nat))∧w.cell? ⟨lb,lo+k*2+1,none⟩=some (ah ws[k].2):=fun k hk=>by
  obtain⟨lb,lo,h1,h2,h3,h4⟩:=lX U;exact⟨lb,lo,h1,h2,h3,h4 _ _ (fQ ws k hk).1,by have:=h4 _ _ (fQ ws k hk).2;rwa [←Ps] at this⟩
 have bQ:∀k (hk:k<ws.length),(j.home≤ws[k].1∧ws[k].1<j.d.l.length)∧ws[k].2.length=256:=fun k hk=>⟨hh _ (LO hk),(hw.2.2 _ (LO hk)).2⟩
 have qM:=hw.1;have kV:=hw.2.1;have Mk:=fun (W:World) (q:Q w W)=>Og W p b j (h.box.stays q) hn.log2
 obtain⟨c0,c1,c2,c3,c4,c5,c6,c7⟩:=h.box.c8;have kY:=Hd fV;have HC:=Hd aP;have HO:=Hd bQ;have HHO:=Hd Mk;have HJ:=Hd h;have HN:=Hd hn;have iI:=Hd ay;have HW:=Hd hw;have HU:=Hd hu;clear fV aP bQ Mk h hn ay lX hl hh hw;go_enter func100,ntmps100;go_wp2_with fail;refine kY.out.mono ?_;rintro e w1 ⟨fv,rfl,dQ,q1⟩;obtain⟨fa,fc,rfl,-⟩:=aY dQ;have pY:=Hd dQ;have dF:=Hd q1;clear dQ q1 c0 c1 c2 c3 c4 c5 c6 c7;go_wp2_with fail;go_loopw [7] (fun v wr=>∃k:Nat,v=.int .i64 (k:Nat)∧k≤ws.length∧Hid (Q w1 wr)) (fun v _=>ws.length-(intOf v).toNat)
 case atStart=>exact⟨0,rfl,L0 _,Q.refl _⟩
 case round =>
  obtain⟨k,rfl,hk,HQ⟩:=hrel;have El:=HJ.out.keep (dF.out.trans HQ.out);obtain⟨c0,c1,c2,c3,c4,c5,c6,c7⟩:=El.box.c8;by_cases ay:k<ws.length
  ·have bq:(k:Int)<(ws.length:Int):=U
   obtain⟨lb,lo,rfl,-,-,x1,x2⟩:=HC.out k ay;have y1:=aI (dF.out.trans HQ.out) x1;have y2:=aI (dF.out.trans HQ.out) x2;obtain⟨⟨h1,h2⟩,gV⟩:=HO.out k ay;obtain⟨dlv,dpv,Ai⟩:=El.dev;obtain⟨dla,dlc,rfl,-⟩:=Ai.gt;obtain⟨z0,_⟩:=Ai.box.c4;have Mk:=HHO.out wr (dF.out.trans HQ.out);generalize ws[k].1=bk at *;generalize ws[k].2=dk at *;have e1:decide ((bk:Int)<(j.home:Int))=false:=Mz U;have e2:decide ((j.d.l.length:Int)≤(bk:Int))=false:=Mz U;have e1n:decide (bk<j.home)=false:=Mz U;have e2n:decide (j.d.l.length≤bk)=false:=Mz U;have e3:(!((dk.length:Int)==256))=false:=by rw[MY.2 U];rfl
   have e4:((dk.length:Int) != 256)=false:=by rw[bne,MY.2 U];rfl
   have HH:=Hd Mk;clear Mk Ai El x1 x2 h1 h2 gV;generalize j.d.l.length=dn at *;generalize j.home=hm at *;clear HH;go_wp2_with fail;obtain⟨c0b,am5⟩:∃x,x=b:=⟨_,rfl⟩;have KK:=Hd (Q.refl wr);go_region_held3 (fun w'=>w'.cell? ⟨p,0,none⟩=some (au b)∧w'.cell? ⟨b,0,none⟩=some (.slice dla dn dlc)∧w'.cell? ⟨lb,lo+k*2,none⟩=some (.int .i64 (bk:Nat)))
    (first|exact⟨c0,z0,y1⟩|exact three δ c0 z0 y1)
    (first
     | (go_at_call 178;with_reducible refine(HHO.out _ (dF.out.trans (HQ.out.trans ω))).mono ?_;rintro e w2 ⟨rfl,rfl⟩))
   all_goals
    have hqd:Q w1 wr.drew:=HQ.out.trans (Q.drew _);have HQD:=Hd hqd;have y3:=aI (Q.drew wr) y2;clear c0 z0 y1 y2 hqd;go_wp2_with fail;go_roundw;case rel=>exact⟨k+1,by go_num,U,HQD⟩
    case measure=>simp[intOf];omega
  ·have bq:¬(k:Int)<(ws.length:Int):=U
   obtain rfl:k=ws.length:=U;have jB:IntKind.i64.wrap ((j.s.log:Int)-(j.used:Int))=(j.s.log:Int)-(j.used:Int):=by have:=HN.out.log2;rw[IntWalk.i64_in _ U]
   clear c1 c2 c4 c5 c6;have am6:=HN.out.log2;by_cases hroom:ws.length+2>j.s.log-j.used
   ·have rQ:(j.s.log:Int)-(j.used:Int)<(ws.length:Int)+1+1:=U
    have dJ:j.bj ws=if j.cz.2≠0 then j.cz else j.cz.1.com ws:=by unfold JL.bj;rw[Φ hroom]
    have aa3:=Hd dJ;have Ij:=El.keep (Q.drew wr);have ajg:=Hd Ij;clear dJ Ij El hroom;go_wp2_with fail;go_region;all_goals
     have cck:=Om wr.drew F p b j ajg.out HN.out;have Aj:=Hd (show Q w1 wr.drew from HQ.out.trans (Q.drew _))
     generalize wr.drew=wy at *;have qQ:=Hd (show w.heap.size≤wy.heap.size from LS dF.out.size Aj.out.size)
     by_cases hz:j.cz.2=0;case neg =>
      have hb:(j.cz.2==0)=false:=Γ.2 hz;have dJ:=aa3.out;rw[Φ hz] at dJ;generalize j.cz=jc at *;have Ea:=Hd cck;have pJ:=Hd dJ;clear cck dJ hz c0 c3 c7;go_wp2_with fail;refine Ea.out.mono ?_;rintro e w3 ⟨rfl,h3,t3⟩;have dK:bp w3 (grow F w w3) p b jc.1:=h3.mono (fun k hk=>hk.elim .inl (fun hk=>.inr ⟨LS qQ.out hk.1,hk.2⟩)) (fun k hk=>hk.elim (fun hk=>Ψ (iI.out k hk) (LS qQ.out t3.size)) (fun hk=>hk.2))
      have um:ae F w w3:=(ae.br (dF.out.trans Aj.out)).trans t3;have nT:=Hd dK;have yw:=Hd um;clear h3 t3 dK um;go_wp2_with fail;go_ret;rw[pJ.out];exact⟨rfl,nT.out,yw.out⟩
     have hb:(j.cz.2==0)=true:=MY.2 hz;obtain⟨EU,EW,YA⟩:=HN.out.cz hz;have dJ:=aa3.out;rw[η (by rw[hz];decide)] at dJ
     generalize j.cz=jc at *;obtain⟨j1,ec⟩:=jc;simp only at hz EU EW YA dJ cck hb;subst hz;have Ea:=Hd cck;have OY:=Hd dJ;have fZ:=Hd EU;have qB:=Hd EW;clear cck dJ EU EW YA hb c0 c3 c7 aa3;go_wp2_with fail;refine Ea.out.mono ?_;rintro e wx ⟨rfl,h3,t3⟩;have pE:=Hd h3;have T1:=Hd t3;clear h3 t3;have Dz:=SlO.lt (ownsRow_below pY.out Aj.out) T1.out iI.out;rw[←qB.out] at Dz;have wF:=Rp wx (grow F wy wx) p b j1 _ ws pE.out fZ.out HW.out Dz;have qP:=oc fZ.out ws;have Uf:=Rs j1 ws;have vI:=fun hz=>(Oo j1 ws hz).2
     generalize j1.eL ws=dL at *;have HLG:=Hd wF;have BH:=Hd qP;have aa4:=Hd Uf;have MB:=Hd vI;clear wF qP Uf vI Dz;go_wp2_with fail;refine HLG.out.mono ?_;rintro e w4 ⟨rfl,h4,t4⟩;have kZ:=bp.next (fun k hk=>Ψ (iI.out k hk) qQ.out) T1.out h4 t4
     have H4:=Hd kZ.1;have T4:=Hd kZ.2;clear kZ h4 t4;by_cases BJ:dL.2=0;case neg =>
      have e9:(dL.2==0)=false:=Γ.2 BJ;have dJ:=OY.out;rw[aa4.out BJ] at dJ;have dK:bp w4 (grow F w w4) p b { j1 with d:=dL.1 }:=H4.out.mono (fun k hk=>hk.elim .inl (fun hk=>.inr ⟨LS qQ.out hk.1,hk.2⟩)) (fun k hk=>hk.elim (fun hk=>Ψ (iI.out k hk) (LS qQ.out T4.out.size)) (fun hk=>hk.2))
      have um:ae F w w4:=(ae.br (dF.out.trans Aj.out)).trans T4.out;have pJ:=Hd dJ;have nT:=Hd dK;have yw:=Hd um;clear dJ dK um BJ;go_wp2_with fail;go_ret;rw[pJ.out];exact⟨rfl,nT.out,yw.out⟩
     rw[BJ];have dJ:=OY.out;rw[MB.out BJ] at dJ;have Pb:=BH.out.2 BJ;have Ug:=BH.out.1;obtain⟨k0,k1,k2,k3,k4,k5,k6,k7⟩:=H4.out.box.c8;have g6:=H4.out.box.frozen 6;have g7:=H4.out.box.frozen 7;simp only at k0 k6 k7;have pO:=fZ.out.used;have hw7:IntKind.i64.wrap ((j1.used:Int)+((ws.length:Int)+1))=(j1.used:Int)+(ws.length:Int)+1:=by rw[IntWalk.i64_in _ U];omega
     have Uh:(j1.used:Int)+(ws.length:Int)+1=((j1.used+ws.length+1:Nat):Int):=U;have gU:=fZ.out.next;have Ui:IntKind.u64.wrap ((j1.next:Int)+1)=(((j1.next+1)%18446744073709551616:Nat):Int):=by simp[IntKind.wrap,IntKind.bits,IntKind.signed]
     have Uj:=(H4.out.box.set 7 (.int .i64 ((j1.used+ws.length+1:Nat):Int))).set 6 (.int .u64 (((j1.next+1)%18446744073709551616:Nat):Int));have zF:ae (fun k=>k=p) w4 ((w4.setCell ⟨p,7,none⟩ (.int .i64 ((j1.used+ws.length+1:Nat):Int))).setCell ⟨p,6,none⟩ (.int .u64 (((j1.next+1)%18446744073709551616:Nat):Int))):=ae.setCell (a:=⟨p,6,none⟩) (ae.setCell (a:=⟨p,7,none⟩) (ae.refl (fun k=>k=p) w4) (.inl rfl) _) (.inl rfl) _
     have Hr:bp ((w4.setCell ⟨p,7,none⟩ (.int .i64 ((j1.used+ws.length+1:Nat):Int))).setCell ⟨p,6,none⟩ (.int .u64 (((j1.next+1)%18446744073709551616:Nat):Int))) (grow F wy w4) p b (({ j1 with d:=dL.1 }:JL).advance ws.length):=H4.out.turned Uj rfl zF;have KE:((w4.setCell ⟨p,7,none⟩ (.int .i64 ((j1.used+ws.length+1:Nat):Int))).setCell ⟨p,6,none⟩ (.int .u64 (((j1.next+1)%18446744073709551616:Nat):Int))).heap.size=w4.heap.size:=by rw[bO,bO]
     have Uk:ae F wy ((w4.setCell ⟨p,7,none⟩ (.int .i64 ((j1.used+ws.length+1:Nat):Int))).setCell ⟨p,6,none⟩ (.int .u64 (((j1.next+1)%18446744073709551616:Nat):Int))):=T4.out.step (zF.mono (fun k hk=>by rw[hk];exact H4.out.fp))
     have Ia:bp ((w4.setCell ⟨p,7,none⟩ (.int .i64 ((j1.used+ws.length+1:Nat):Int))).setCell ⟨p,6,none⟩ (.int .u64 (((j1.next+1)%18446744073709551616:Nat):Int))) (grow F wy ((w4.setCell ⟨p,7,none⟩ (.int .i64 ((j1.used+ws.length+1:Nat):Int))).setCell ⟨p,6,none⟩ (.int .u64 (((j1.next+1)%18446744073709551616:Nat):Int)))) p b (({ j1 with d:=dL.1 }:JL).advance ws.length):=Hr.mono (fun k hk=>hk.elim .inl (fun hk=>.inr ⟨hk.1,by rw[KE];exact hk.2⟩)) (fun k hk=>hk.elim (fun hk=>by rw[KE];exact Ψ (iI.out k hk) (LS qQ.out T4.out.size)) (fun hk=>hk.2))
     have O1:=Hd Ia;have OP:=Hd Uk;have pJ:=Hd dJ;have HPZ:=Hd Pb;have aa5:=Hd Ug;have HW6:=Hd Ui;have HW7:=Hd Uh;clear Hr Ia zF Uk Uj KE dJ Pb Ug BJ Uh k1 k2 k3 k4 k5 pO gU Ui;go_upto_region 20 with fail;rw[HW6.out,HW7.out];clear hw7 k0 k6 k7 g6 g7;generalize (w4.setCell ⟨p,7,none⟩ (.int .i64 ((j1.used+ws.length+1:Nat):Int))).setCell ⟨p,6,none⟩ (.int .u64 (((j1.next+1)%18446744073709551616:Nat):Int))=w5 at *;generalize ((j1.used+ws.length+1:Nat):Int)=vv7;generalize (((j1.next+1)%18446744073709551616:Nat):Int)=vv6;generalize Ul:({ j1 with d:=dL.1 }:JL).advance ws.length=jA at *;have ku:j.bj ws=({ jA with d:=(dL.1.writes ws).1 },(dL.1.writes ws).2):=by rw[pJ.out,←Ul];rfl
     have Ij:jA.d=dL.1:=by rw[←Ul];rfl
     have HFN:=Hd ku;have HJD:=Hd Ij;clear ku Ij Ul pJ;go_wp2_with fail;go_loopw [9] (fun v wr=>∃(k:Nat) (d2:af),v=.int .i64 (k:Nat)∧k≤ws.length∧Hid (dL.1.writes ws=d2.writes (ws.drop k))∧Hid (bp wr (grow F wy wr) p b { jA with d:=d2 })∧Hid (ae F wy wr)∧Hid d2.Ok∧Hid (d2.dead=false→d2.p.length≤k)) (fun v _=>ws.length-(intOf v).toNat)
     case atStart=>exact⟨0,dL.1,rfl,L0 _,by rw[QQ];exact Hd rfl,by rw[←HJD.out];exact O1,OP,aa5,Hd (fun _=>by rw[HPZ.out];exact Ω _)⟩
     case round =>
      obtain⟨k,d2,rfl,hk,HE,jU,fG,tY,kX⟩:=hrel;by_cases ay:k<ws.length
      ·have bq:(k:Int)<(ws.length:Int):=U
       obtain⟨lb,lo,rfl,OJ,qK,x1,x2⟩:=HC.out k ay;have y1:=fG.out.cell (aI (dF.out.trans Aj.out) x1) qK;have y2:=fG.out.cell (aI (dF.out.trans Aj.out) x2) qK;have he:=HE.out;rw[PQ ay,af.writes] at he;obtain⟨⟨hb1,bN⟩,gV⟩:=HO.out k ay;have eO:=jU.out.write tY.out (fun hx=>by have h1:=kX.out hx;show d2.p.length≤_;omega) (ws[k].1:Nat) ws[k].2 (by rw[gV];omega)
       simp only at eO;have bQ:=af.eI tY.out (ws[k].1:Nat) ws[k].2;have gK:(d2.write (ws[k].1:Nat) ws[k].2).1.dead=false→(d2.write (ws[k].1:Nat) ws[k].2).1.p.length≤k+1:=fun hx=>by
        have h1:=kX.out (af.eh _ _ _ hx);have h2:=af.ff d2 (ws[k].1:Nat) ws[k].2;omega
       obtain⟨c0,_⟩:=jU.out.box.c8;have hsy:=qQ.out;have C9:¬grow F wy wr lb:=fun hc=>hc.elim qK (fun hc=>U)
       generalize Hl:d2.write (ws[k].1:Nat) ws[k].2=dw at *;generalize ws[k].1=bk at *;generalize ws[k].2=dk at *;have BD:=Hd eO;have kI:=Hd he;have pq:=Hd bQ;have sO:=Hd gK;have rW:=Hd C9;have KK:=Hd (Q.refl wr);clear eO he bQ gK Hl x1 x2 gV C9 hb1 bN;go_wp2_with fail;go_region_held3 (fun w'=>w'.cell? ⟨p,0,none⟩=some (au b)∧w'.cell? ⟨lb,lo+k*2,none⟩=some (.int .i64 (bk:Nat))∧w'.cell? ⟨lb,lo+k*2+1,none⟩=some (ah dk))
        (first|exact g0|exact⟨c0,y1,y2⟩|exact three δ c0 y1 y2)
        (first
         | (go_at_call 170;with_reducible refine(BD.out _ ω).mono ?_;rintro e w3 ⟨rfl,h3,t3⟩;have g:=Blk.c8 (bp.box h3);have g0:=And.intro g.1 (And.intro (ae.cell t3 y1 rW.out) (ae.cell t3 y2 rW.out));clear g;have H3:=Hd h3;have T3:=Hd t3;clear h3 t3))
       all_goals
        have mV:=bp.next (fun k hk=>Ψ (iI.out k hk) qQ.out) fG.out H3.out T3.out
        have gF:=Hd mV.1;have rP:=Hd mV.2;clear mV c0 y1 y2;try clear g0
        by_cases hz:dw.2=0
        ·have hb:(dw.2==0)=true:=MY.2 hz
         have eX:=kI.out;rw[Φ hz] at eX;have tV:=Hd eX;clear eX kI hz;go_wp2_with fail;go_roundw;case rel=>exact⟨k+1,dw.1,by go_num,U,tV,gF,rP,pq,sO⟩
         case measure=>simp[intOf];omega
        ·have hb:(dw.2==0)=false:=Γ.2 hz
         have eX:=kI.out;rw[η hz] at eX;have ku:=HFN.out;rw[eX] at ku;have dK:bp w3 (grow F w w3) p b { jA with d:=dw.1 }:=gF.out.mono (fun k hk=>hk.elim .inl (fun hk=>.inr ⟨LS qQ.out hk.1,hk.2⟩)) (fun k hk=>hk.elim (fun hk=>Ψ (iI.out k hk) (LS qQ.out rP.out.size)) (fun hk=>hk.2))
         have um:ae F w w3:=(ae.br (dF.out.trans Aj.out)).trans rP.out;have KF:=Hd ku;have nT:=Hd dK;have yw:=Hd um;clear eX kI hz ku dK um;go_wp2_with fail;go_ret;rw[KF.out];exact⟨rfl,nT.out,yw.out⟩
      ·have bq:¬(k:Int)<(ws.length:Int):=U
       obtain rfl:k=ws.length:=U;have he:=HE.out;rw[VV,af.writes] at he;have ku:=HFN.out;rw[he] at ku;have dK:bp wr (grow F w wr) p b { jA with d:=d2 }:=jU.out.mono (fun k hk=>hk.elim .inl (fun hk=>.inr ⟨LS qQ.out hk.1,hk.2⟩)) (fun k hk=>hk.elim (fun hk=>Ψ (iI.out k hk) (LS qQ.out fG.out.size)) (fun hk=>hk.2))
       have um:ae F w wr:=(ae.br (dF.out.trans Aj.out)).trans fG.out;have KF:=Hd ku;have nT:=Hd dK;have yw:=Hd um;clear he ku dK um;go_wp2_with fail;go_ret;rw[KF.out];exact⟨rfl,nT.out,yw.out⟩
   ·have rQ:¬(j.s.log:Int)-(j.used:Int)<(ws.length:Int)+1+1:=U
    have dJ:j.bj ws=j.com ws:=by unfold JL.bj;rw[η hroom]
    have OY:=Hd dJ;have Ij:=(El.keep (Q.drew wr)).mono (G:=grow F wr.drew wr.drew) (fun k hk=>.inl hk) (fun k hk=>hk.elim (fun hk=>(El.keep (Q.drew wr)).lt k hk) (fun hk=>hk.2))
    have pE:=Hd Ij;clear dJ Ij El hroom;go_wp2_with fail;go_region;all_goals
     have Aj:=Hd (show Q w1 wr.drew from HQ.out.trans (Q.drew _))
     generalize wr.drew=wy at *;have qQ:=Hd (show w.heap.size≤wy.heap.size from LS dF.out.size Aj.out.size)
     have fZ:=HN;have qB:=Hd (show j.next=j.next from rfl)
     have T1:=Hd (ae.refl F wy);clear c0 c3 c7;have Dz:=SlO.lt (ownsRow_below pY.out Aj.out) T1.out iI.out;rw[←qB.out] at Dz;have wF:=Rp wy (grow F wy wy) p b j _ ws pE.out fZ.out HW.out Dz;have qP:=oc fZ.out ws;have Uf:=Rs j ws;have vI:=fun hz=>(Oo j ws hz).2
     generalize j.eL ws=dL at *;have HLG:=Hd wF;have BH:=Hd qP;have aa4:=Hd Uf;have MB:=Hd vI;clear wF qP Uf vI Dz;go_wp2_with fail;refine HLG.out.mono ?_;rintro e w4 ⟨rfl,h4,t4⟩;have kZ:=bp.next (fun k hk=>Ψ (iI.out k hk) qQ.out) T1.out h4 t4
     have H4:=Hd kZ.1;have T4:=Hd kZ.2;clear kZ h4 t4;by_cases BJ:dL.2=0;case neg =>
      have e9:(dL.2==0)=false:=Γ.2 BJ;have dJ:=OY.out;rw[aa4.out BJ] at dJ;have dK:bp w4 (grow F w w4) p b { j with d:=dL.1 }:=H4.out.mono (fun k hk=>hk.elim .inl (fun hk=>.inr ⟨LS qQ.out hk.1,hk.2⟩)) (fun k hk=>hk.elim (fun hk=>Ψ (iI.out k hk) (LS qQ.out T4.out.size)) (fun hk=>hk.2))
      have um:ae F w w4:=(ae.br (dF.out.trans Aj.out)).trans T4.out;have pJ:=Hd dJ;have nT:=Hd dK;have yw:=Hd um;clear dJ dK um BJ;go_wp2_with fail;go_ret;rw[pJ.out];exact⟨rfl,nT.out,yw.out⟩
     rw[BJ];have dJ:=OY.out;rw[MB.out BJ] at dJ;have Pb:=BH.out.2 BJ;have Ug:=BH.out.1;obtain⟨k0,k1,k2,k3,k4,k5,k6,k7⟩:=H4.out.box.c8;have g6:=H4.out.box.frozen 6;have g7:=H4.out.box.frozen 7;simp only at k0 k6 k7;have pO:=fZ.out.used;have hw7:IntKind.i64.wrap ((j.used:Int)+((ws.length:Int)+1))=(j.used:Int)+(ws.length:Int)+1:=by rw[IntWalk.i64_in _ U];omega
     have Uh:(j.used:Int)+(ws.length:Int)+1=((j.used+ws.length+1:Nat):Int):=U;have gU:=fZ.out.next;have Ui:IntKind.u64.wrap ((j.next:Int)+1)=(((j.next+1)%18446744073709551616:Nat):Int):=by simp[IntKind.wrap,IntKind.bits,IntKind.signed]
     have Uj:=(H4.out.box.set 7 (.int .i64 ((j.used+ws.length+1:Nat):Int))).set 6 (.int .u64 (((j.next+1)%18446744073709551616:Nat):Int));have zF:ae (fun k=>k=p) w4 ((w4.setCell ⟨p,7,none⟩ (.int .i64 ((j.used+ws.length+1:Nat):Int))).setCell ⟨p,6,none⟩ (.int .u64 (((j.next+1)%18446744073709551616:Nat):Int))):=ae.setCell (a:=⟨p,6,none⟩) (ae.setCell (a:=⟨p,7,none⟩) (ae.refl (fun k=>k=p) w4) (.inl rfl) _) (.inl rfl) _
     have Hr:bp ((w4.setCell ⟨p,7,none⟩ (.int .i64 ((j.used+ws.length+1:Nat):Int))).setCell ⟨p,6,none⟩ (.int .u64 (((j.next+1)%18446744073709551616:Nat):Int))) (grow F wy w4) p b (({ j with d:=dL.1 }:JL).advance ws.length):=H4.out.turned Uj rfl zF;have KE:((w4.setCell ⟨p,7,none⟩ (.int .i64 ((j.used+ws.length+1:Nat):Int))).setCell ⟨p,6,none⟩ (.int .u64 (((j.next+1)%18446744073709551616:Nat):Int))).heap.size=w4.heap.size:=by rw[bO,bO]
     have Uk:ae F wy ((w4.setCell ⟨p,7,none⟩ (.int .i64 ((j.used+ws.length+1:Nat):Int))).setCell ⟨p,6,none⟩ (.int .u64 (((j.next+1)%18446744073709551616:Nat):Int))):=T4.out.step (zF.mono (fun k hk=>by rw[hk];exact H4.out.fp))
     have Ia:bp ((w4.setCell ⟨p,7,none⟩ (.int .i64 ((j.used+ws.length+1:Nat):Int))).setCell ⟨p,6,none⟩ (.int .u64 (((j.next+1)%18446744073709551616:Nat):Int))) (grow F wy ((w4.setCell ⟨p,7,none⟩ (.int .i64 ((j.used+ws.length+1:Nat):Int))).setCell ⟨p,6,none⟩ (.int .u64 (((j.next+1)%18446744073709551616:Nat):Int)))) p b (({ j with d:=dL.1 }:JL).advance ws.length):=Hr.mono (fun k hk=>hk.elim .inl (fun hk=>.inr ⟨hk.1,by rw[KE];exact hk.2⟩)) (fun k hk=>hk.elim (fun hk=>by rw[KE];exact Ψ (iI.out k hk) (LS qQ.out T4.out.size)) (fun hk=>hk.2))
     have O1:=Hd Ia;have OP:=Hd Uk;have pJ:=Hd dJ;have HPZ:=Hd Pb;have aa5:=Hd Ug;have HW6:=Hd Ui;have HW7:=Hd Uh;clear Hr Ia zF Uk Uj KE dJ Pb Ug BJ Uh k1 k2 k3 k4 k5 pO gU Ui;go_upto_region 20 with fail;rw[HW6.out,HW7.out];clear hw7 k0 k6 k7 g6 g7;generalize (w4.setCell ⟨p,7,none⟩ (.int .i64 ((j.used+ws.length+1:Nat):Int))).setCell ⟨p,6,none⟩ (.int .u64 (((j.next+1)%18446744073709551616:Nat):Int))=w5 at *;generalize ((j.used+ws.length+1:Nat):Int)=vv7;generalize (((j.next+1)%18446744073709551616:Nat):Int)=vv6;generalize Ul:({ j with d:=dL.1 }:JL).advance ws.length=jA at *;have ku:j.bj ws=({ jA with d:=(dL.1.writes ws).1 },(dL.1.writes ws).2):=by rw[pJ.out,←Ul];rfl
     have Ij:jA.d=dL.1:=by rw[←Ul];rfl
     have HFN:=Hd ku;have HJD:=Hd Ij;clear ku Ij Ul pJ;go_wp2_with fail;go_loopw [9] (fun v wr=>∃(k:Nat) (d2:af),v=.int .i64 (k:Nat)∧k≤ws.length∧Hid (dL.1.writes ws=d2.writes (ws.drop k))∧Hid (bp wr (grow F wy wr) p b { jA with d:=d2 })∧Hid (ae F wy wr)∧Hid d2.Ok∧Hid (d2.dead=false→d2.p.length≤k)) (fun v _=>ws.length-(intOf v).toNat)
     case atStart=>exact⟨0,dL.1,rfl,L0 _,by rw[QQ];exact Hd rfl,by rw[←HJD.out];exact O1,OP,aa5,Hd (fun _=>by rw[HPZ.out];exact Ω _)⟩
     case round =>
      obtain⟨k,d2,rfl,hk,HE,jU,fG,tY,kX⟩:=hrel;by_cases ay:k<ws.length
      ·have bq:(k:Int)<(ws.length:Int):=U
       obtain⟨lb,lo,rfl,OJ,qK,x1,x2⟩:=HC.out k ay;have y1:=fG.out.cell (aI (dF.out.trans Aj.out) x1) qK;have y2:=fG.out.cell (aI (dF.out.trans Aj.out) x2) qK;have he:=HE.out;rw[PQ ay,af.writes] at he;obtain⟨⟨hb1,bN⟩,gV⟩:=HO.out k ay;have eO:=jU.out.write tY.out (fun hx=>by have h1:=kX.out hx;show d2.p.length≤_;omega) (ws[k].1:Nat) ws[k].2 (by rw[gV];omega)
       simp only at eO;have bQ:=af.eI tY.out (ws[k].1:Nat) ws[k].2;have gK:(d2.write (ws[k].1:Nat) ws[k].2).1.dead=false→(d2.write (ws[k].1:Nat) ws[k].2).1.p.length≤k+1:=fun hx=>by
        have h1:=kX.out (af.eh _ _ _ hx);have h2:=af.ff d2 (ws[k].1:Nat) ws[k].2;omega
       obtain⟨c0,_⟩:=jU.out.box.c8;have hsy:=qQ.out;have C9:¬grow F wy wr lb:=fun hc=>hc.elim qK (fun hc=>U)
       generalize Hl:d2.write (ws[k].1:Nat) ws[k].2=dw at *;generalize ws[k].1=bk at *;generalize ws[k].2=dk at *;have BD:=Hd eO;have kI:=Hd he;have pq:=Hd bQ;have sO:=Hd gK;have rW:=Hd C9;have KK:=Hd (Q.refl wr);clear eO he bQ gK Hl x1 x2 gV C9 hb1 bN;go_wp2_with fail;go_region_held3 (fun w'=>w'.cell? ⟨p,0,none⟩=some (au b)∧w'.cell? ⟨lb,lo+k*2,none⟩=some (.int .i64 (bk:Nat))∧w'.cell? ⟨lb,lo+k*2+1,none⟩=some (ah dk))
        (first|exact g0|exact⟨c0,y1,y2⟩|exact three δ c0 y1 y2)
        (first
         | (go_at_call 170;with_reducible refine(BD.out _ ω).mono ?_;rintro e w3 ⟨rfl,h3,t3⟩;have g:=Blk.c8 (bp.box h3);have g0:=And.intro g.1 (And.intro (ae.cell t3 y1 rW.out) (ae.cell t3 y2 rW.out));clear g;have H3:=Hd h3;have T3:=Hd t3;clear h3 t3))
       all_goals
        have mV:=bp.next (fun k hk=>Ψ (iI.out k hk) qQ.out) fG.out H3.out T3.out
        have gF:=Hd mV.1;have rP:=Hd mV.2;clear mV c0 y1 y2;try clear g0
        by_cases hz:dw.2=0
        ·have hb:(dw.2==0)=true:=MY.2 hz
         have eX:=kI.out;rw[Φ hz] at eX;have tV:=Hd eX;clear eX kI hz;go_wp2_with fail;go_roundw;case rel=>exact⟨k+1,dw.1,by go_num,U,tV,gF,rP,pq,sO⟩
         case measure=>simp[intOf];omega
        ·have hb:(dw.2==0)=false:=Γ.2 hz
         have eX:=kI.out;rw[η hz] at eX;have ku:=HFN.out;rw[eX] at ku;have dK:bp w3 (grow F w w3) p b { jA with d:=dw.1 }:=gF.out.mono (fun k hk=>hk.elim .inl (fun hk=>.inr ⟨LS qQ.out hk.1,hk.2⟩)) (fun k hk=>hk.elim (fun hk=>Ψ (iI.out k hk) (LS qQ.out rP.out.size)) (fun hk=>hk.2))
         have um:ae F w w3:=(ae.br (dF.out.trans Aj.out)).trans rP.out;have KF:=Hd ku;have nT:=Hd dK;have yw:=Hd um;clear eX kI hz ku dK um;go_wp2_with fail;go_ret;rw[KF.out];exact⟨rfl,nT.out,yw.out⟩
      ·have bq:¬(k:Int)<(ws.length:Int):=U
       obtain rfl:k=ws.length:=U;have he:=HE.out;rw[VV,af.writes] at he;have ku:=HFN.out;rw[he] at ku;have dK:bp wr (grow F w wr) p b { jA with d:=d2 }:=jU.out.mono (fun k hk=>hk.elim .inl (fun hk=>.inr ⟨LS qQ.out hk.1,hk.2⟩)) (fun k hk=>hk.elim (fun hk=>Ψ (iI.out k hk) (LS qQ.out fG.out.size)) (fun hk=>hk.2))
       have um:ae F w wr:=(ae.br (dF.out.trans Aj.out)).trans fG.out;have KF:=Hd ku;have nT:=Hd dK;have yw:=Hd um;clear he ku dK um;go_wp2_with fail;go_ret;rw[KF.out];exact⟨rfl,nT.out,yw.out⟩
end
end Go.Proofs.YtbkahhebmpehnaaGreatDoor
