/- Joined: WJrnJ to WJrnJ -/
import Derived.Test.YtbkahhebmpehnaaGreatDoorCXWJrnE
set_option linter.all false
set_option maxRecDepth 100000
set_option maxHeartbeats 8000000
namespace Go.Proofs.YtbkahhebmpehnaaGreatDoor
open Go.Proofs.Tryz
section
open Go.RowKit
def oM(ws:List WrL):List Bytes:=ws.map (·.2)++[ag]
theorem NN(j:JL)(ws:List WrL)(k:Nat)(hk:k<(oM ws).length):(j.ed ws).take (k+1)=(j.ed ws).take k++[(j.place (k+1),(oM ws)[k])]:=by
 have hl:(j.ed ws).length=(oM ws).length:=by simp[JL.ed,oM]
 rw[Mb U];congr 2;simp only[JL.ed,ace,List.getElem_zipIdx,oM,On]
theorem sZ(j:JL)(ws:List WrL):(j.ed ws).length=ws.length+1:=by simp[JL.ed]
theorem NP(ws:List WrL):(oM ws).length=ws.length+1:=by simp[oM]
theorem BX{F:Nat→Prop}{A A' B:World}(h:A.heap.size≤A'.heap.size){k:Nat}(hk:grow F A' B k):grow F A B k:=hk.elim .inl (fun hk=>.inr ⟨LS h hk.1,hk.2⟩)
theorem cG.back{w w2 w5 w':World}{F:Nat→Prop}{p b:Nat}{j:JL}(h:cG w' (grow (grow F w2 w5) w5 w') p b j)(h1:w.heap.size≤w2.heap.size)(h2:w2.heap.size≤w5.heap.size)(h3:w5.heap.size≤w'.heap.size)(hF:∀k,F k→k<w.heap.size):cG w' (grow F w w') p b j :=
 h.mono (fun k hk=>hk.elim (fun hk=>hk.elim .inl (fun hk=>.inr ⟨LS h1 hk.1,Ψ hk.2 h3⟩)) (fun hk=>.inr ⟨LS h1 (LS h2 hk.1),hk.2⟩)) (fun k hk=>hk.elim (fun hk=>by have:=hF k hk;omega) (fun hk=>hk.2))
theorem ql{d:af}{ws:List WrL}(h:(d.lays ws).2=0):(d.lays ws).1.p=[]:=by
 unfold af.lays at h ⊢;split
 ·rename_i hz
  rw[Φ hz] at h;unfold af.bw at h ⊢;split
  ·rename_i hd
   rw[Φ hd] at h;simp at h
  ·rename_i hd
   rw[η hd] at h;split
   ·rename_i hf
    rw[Φ hf] at h;simp at h
   ·rfl
 ·rename_i hz
  rw[η hz] at h;exact absurd h hz
theorem fW.cz{j:JL}(h:fW j)(hz:j.cz.2=0):fW j.cz.1∧j.cz.1.next=j.next∧j.cz.1.s.log=j.s.log:=by
 have hn:=h.pp;have mG:j.cM.1.Ok:=af.dm h.ok _;have fF:j.cW.1.Ok:=af.dm mG _;have h1:¬j.cM.2≠0:=fun hc=>by unfold JL.cz at hz;rw[Φ hc] at hz;exact hc hz
 have h2:¬j.cW.2≠0:=fun hc=>by unfold JL.cz at hz;rw[η h1,Φ hc] at hz;exact hc hz
 have e:j.cz=(⟨j.cW.1,j.aE,1-j.k,j.next,0⟩,0):=by unfold JL.cz;rw[η h1,η h2]
 have hp:j.cW.1.p=[]:=ql (by have:j.cW.2=0:=abw.1 h2;exact this)
 rw[e];have bW:j.aE.place≤1000000:=by have:=Sx (j.s.place+j.used) h.log;have:=h.log2;show(j.s.place+j.used)%j.s.log≤_;omega
 exact⟨⟨h.log,h.log2,bW,L0 _,hn.he,hn.hs,h.next,by show 1-j.k≤1;omega,fF,fun _=>by show j.cW.1.p.length≤_;rw[hp];exact L0 _⟩,rfl,rfl⟩
theorem I6(w:World)(F:Nat→Prop)(p b:Nat)(j:JL)(lv:Value)(ws:List WrL)(h:cG w F p b j)(hn:fW j)(hw:sS ws)(hh:∀x∈ws,j.home≤x.1∧x.1<j.d.l.length)(hl:eC w F lv ws)(hu:j.used≤j.s.log):
  Calls prog 135 #[au p,lv] w fun e w'=>e=.returned (.int .i64 (j.bj ws).2)∧cG w' (grow F w w') p b (j.bj ws).1∧ae F w w':=by
 have gL:=WV w F p b j lv ws h hl.sl.1 hw hh hn.log2;have fV:=fun (W:World) (hq:Q w W)=>AW W j.next hn.next lv ws (hl.sl.1.stays hq) hw
 obtain⟨c0,c1,c2,c3,c4,c5,c6,c7⟩:=h.box.c8;have cH:=hn.log2;have pO:=hn.used;have jB:IntKind.i64.wrap ((j.s.log:Int)-(j.used:Int))=(j.s.log:Int)-(j.used:Int):=IntWalk.i64_in _ U;have qM:=hw.1;have kV:=hw.2.1;have D9:IntKind.i64.wrap (((ws.length+1:Nat):Int)+1)=((ws.length+1:Nat):Int)+1:=IntWalk.i64_in _ U;have Ea:=Hd gL;have kY:=Hd fV;have HJ:=Hd h;have HN:=Hd hn;have HL:=Hd hl;have HW:=Hd hw;clear gL fV h hn hl hw hh;go_enter func135,ntmps135;go_wp2_with fail;refine Ea.out.mono ?_;rintro e w1 ⟨rfl,q1⟩;have d6:=aI q1 c6;have dF:=Hd q1;clear q1;go_wp2_with fail;refine(kY.out _ dF.out).mono ?_;rintro e w2 ⟨fv,rfl,VO,q2⟩;have eG:=dF.out.trans q2;have e3:=aI eG c3;have e7:=aI eG c7;have Yz:=gT VO dF.out.size;obtain⟨fa,fc,rfl,Zq⟩:=aY Yz;obtain⟨fg,rfl⟩:=Zq U;obtain⟨adr,ads,hfc⟩:fg<w2.heap.size∧w.heap.size≤fg∧ws.length+1≤fc:=by
  rcases Yz.2 with ⟨hx,_⟩|⟨g,cap,cur,VP,JB,GL,RX,_⟩
  ·cases hx
  ·injection VP with e1 e2 e3
   injection e1 with e1;injection e1 with e1;subst e1;subst e3;exact⟨aJ GL,JB,RX⟩
 have bJ:=Hd eG;have HFV:=Hd Yz;have Sq:=Hd (And.intro adr ads);have vv:eC w2 (grow F w2 w2) lv ws:=⟨⟨HL.out.sl.1.stays eG,fun hn=>by
  obtain⟨kb,ko,e1,e2,e3⟩:=HL.out.sl.2 hn;exact⟨kb,ko,e1,Ψ e2 eG.size,fun hk=>hk.elim e3 (fun hk=>U)⟩⟩,HL.out.num⟩
 have HLX:=Hd vv;have amz:¬fc=1:=U;clear q2 VO eG Yz d6 Zq vv adr ads;have adu:ws.length+2>j.s.log-j.used∨¬ws.length+2>j.s.log-j.used:=Decidable.em _;rcases adu with hroom|hroom
 ·have rQ:(j.s.log:Int)-(j.used:Int)<((ws.length+1:Nat):Int)+1:=U
  have dJ:j.bj ws=if j.cz.2≠0 then j.cz else j.cz.1.com ws:=by unfold JL.bj;rw[Φ hroom]
  have cck:=Qw w2.drew F p b j (HJ.out.keep (bJ.out.trans (Q.drew _))) HN.out;have OY:=Hd dJ;have CCK:=Hd cck;clear dJ cck;go_wp2_with fail;go_region;all_goals
   go_wp2_with fail;refine CCK.out.mono ?_;rintro e w5 ⟨rfl,h5,t5⟩;have Me:w2.heap.size≤w5.heap.size:=t5.size;have H5:=Hd h5;have T5:=Hd t5;clear h5 t5;by_cases hz:j.cz.2=0
   ·have hb:(j.cz.2==0)=true:=MY.2 hz
    obtain⟨EU,EW,YA⟩:=HN.out.cz hz;have dJ:=OY.out;rw[η (by rw[hz];decide)] at dJ
    have pJ:=Hd dJ;have fZ:=Hd EU;have qB:=Hd EW;have Sr:=(T5.out.owns (show w2.drew.ownsRow _ _ _ _ _ _ from HFV.out) (fun g hg hF=>by
     simp only[Value.ownBlock,M3] at hg;subst hg;have:=HJ.out.lt _ hF;have:=Sq.out.2;omega))
    have Sv:=Hd Sr;have hT:=(ae.br (own:=F) (bJ.out.trans (Q.drew _))).trans T5.out;have D7:=Hd hT;have adw:SlO w2.drew F lv ws.length 2 (aN ws):=⟨HLX.out.sl.1.stays (Q.drew _),fun hn=>by
     obtain⟨kb,ko,e1,e2,e3⟩:=HLX.out.sl.2 hn;exact⟨kb,ko,e1,e2,fun hk=>e3 (.inl hk)⟩⟩
    have Sw:eC w5 (grow F w2 w5) lv ws:=⟨show SlO w5 (grow F w2.drew w5) lv ws.length 2 (aN ws) from SlO.keep adw T5.out,HLX.out.num⟩
    have HL1:=Hd Sw;have VQ:cG w5 (grow F w2 w5) p b j.cz.1:=H5.out;have pE:=Hd VQ;clear dJ EU EW Sr hT adw Sw VQ hz YA;generalize DZ:j.cz.1=j1 at *;clear DZ;have jl:((ws.map fun x=>(⟨x.2.toArray⟩:ByteArray)).take ws.length).map Value.string=(ws.map (·.2)).map ah:=by
     rw[Mp κ,Rr,Rr];rfl
    have bL:=fun (W:World) (hq:Q w5 W)=>Tryz.slices_Clone_string fg 1 ws.length (fc-1) (ws.map fun x=>⟨x.2.toArray⟩) W κ U (fun i hi=>by
     have pK:i<ws.length:=by simpa using hi
     have h1:=iy (Sl.cx Sv.out) U (1+i) (ah ws[i].2) (by simp[jG,abX 1 i,pK])
     rw[aI hq h1];simp[LR,pK])
    rw[jl] at bL;have bI:=fun (W:World)=>yM W
    obtain⟨i0,qL,bY,bB,aW⟩:=info_parts DN;obtain⟨i1,qG,wH,tN,hy2⟩:=info_parts nC;have p8:=Hd bL;have dY:=Hd bI;clear jl bL bI;go_wp2_with fail;refine(p8.out _ (Q.refl _)).mono ?_;rintro e w6 ⟨cv,rfl,zI,-,q6⟩;have lG:Hid (Q w5 w6):=Hd q6;have CG:=Hd zI;clear q6 zI;go_wp2_with fail;refine(dY.out _).mono ?_;rintro e w7 ⟨rfl,q7⟩;have wK:=lG.out.trans q7;have Sy:=Hd (ownsRow_below CG.out q7);have lJ:=Hd wK;have cO:∀u∈#[ah ag].toList,u.oneCell'=true:=by intro u hu;simp at hu;subst hu;rfl
    have dI:(ws.length+1)*16≤140737488355328:=U;have vg:=Hd cO;have xI:=Hd dI;clear q7 wK cO dI CG;generalize kT:ag=nn at *;go_wp2_with (at_builtin;refine bG w7 ρ _ _ 101 ρ w5.heap.size 9 _ i0 (ah []) 1 16 underlying101 qL bY bB aW rfl Z Z _ _ _ ρ Sy.out #[ah nn] ρ rfl vg.out xI.out lJ.out.size ?_)
    intro g8 cap8 w8 Zr Zt ho8 aav YB;have Mf:Q w5 w8:=bD lJ.out Sy.out Zt (Ω _) lJ.out.size;have Sz:w8.ownsRow w5.heap.size 9 1 (.slice (some ⟨g8,0,none⟩) (ws.length+1) cap8) (ws.length+1) ((oM ws).map ah):=by
     unfold oM;rw[kT,N5,Rr];exact Zr
    have SA:=Hd Mf;have HR8:=Hd Sz;clear Zr Zt ho8 aav YB Mf Sz;go_wp2_with fail;have Iz:w8.ownsRow w8.heap.size 134 2 (.slice none 0 0) 0 (aN ((j1.ed ws).take 0)):=World.ownsRow_nil _ _ _ _;have bW:=fun (W:World) (hq:Q w8 W) (k:Nat) (hk:k≤1000000)=>vZ W p b j1 k (pE.out.box.stays (SA.out.trans hq)) fZ.out.log fZ.out.log2 fZ.out.place fZ.out.used hk
    have kH:=NN j1 ws;have zJ:=Hd bW;have Ad:=Hd kH;have HNN:=Hd kT;clear bW kH kT;go_loopw [9,55] (fun v i wr=>∃k:Nat,i=.int .i64 (k:Nat)∧k≤ws.length+1∧Hid (wr.ownsRow w8.heap.size 134 2 v k (aN ((j1.ed ws).take k)))∧Hid (Q w8 wr)) (fun _ i _=>ws.length+1-(intOf i).toNat)
    case atStart=>exact⟨0,rfl,L0 _,Iz,Hd (Q.refl _)⟩
    case round =>
     obtain⟨k,rfl,hk,HOW,HQr⟩:=hrel;by_cases ay:k<ws.length+1
     ·have bq:(k:Int)<(ws.length:Int)+1:=U
      have EP:(0:Int)≤(k:Int):=U;have nS:k<(oM ws).length:=by rw[NP];exact ay
      have x1:=iy (Sl.cx (ownsRow_below HR8.out HQr.out)) U k (ah (oM ws)[k]) (by simp[nS])
      have fV:=zJ.out wr HQr.out (k+1) U;have aC:=Ad.out k nS;have aaw:=Hd fV;have aX:=Hd aC;clear fV aC;generalize (oM ws)[k]=sk at *;generalize j1.place (k+1)=plk at *;go_wp2_with fail;refine aaw.out.mono ?_;rintro e w10 ⟨rfl,q10⟩;have EX:=HQr.out.trans q10;have Bq:=Hd (ownsRow_below HOW.out q10);have vS:Hid (Q w8 w10):=Hd EX;have cO:∀u∈#[Value.int .i64 (plk:Nat),ah sk].toList,u.oneCell'=true:=by intro u hu;simp at hu;rcases hu with rfl|rfl<;>rfl
      have dI:(k+1)*24≤140737488355328:=U;have qJ:=Hd cO;have uY:=Hd dI;clear q10 EX cO dI x1;go_wp2_with (at_builtin;refine bG w10 ρ _ _ 102 ρ w8.heap.size 134 _ i1 (.agg #[.int .i64 0,ah []]) 2 24 underlying102 qG wH tN hy2 rfl Z Z _ _ _ ρ Bq.out #[.int .i64 (plk:Nat),ah sk] ρ rfl qJ.out uY.out vS.out.size ?_)
      intro g11 jI w11 iB gu lQ jR iC;have zS:Q w8 w11:=bD vS.out Bq.out gu (Ω _) vS.out.size;have gW:w11.ownsRow w8.heap.size 134 2 (.slice (some ⟨g11,0,none⟩) (k+1) jI) (k+1) (aN ((j1.ed ws).take (k+1))):=by
       rw[aX.out,iF,show aN [(plk,sk)]=mX (plk,sk) by simp[aN]];exact iB
      have oz:=Hd zS;have qW:=Hd gW;clear iB gu lQ jR iC zS gW;go_wp2_with fail;go_roundw;case rel=>exact⟨k+1,by go_num,U,qW,oz⟩
      case measure=>simp[intOf];omega
     ·have bq:¬(k:Int)<(ws.length:Int)+1:=U
      obtain rfl:k=ws.length+1:=U;have dP:=HOW.out;rw[Mp (by rw[sZ];exact Ω _)] at dP
      have kJ:Q w5 wr:=SA.out.trans HQr.out;have bL:=yD wr (fun k=>grow F w2 w5 k∧k≠p) p b j1 u9 (j1.ed ws) (pE.out.box.stays kJ) ((pE.out.dev.minus pE.out.box).keep kJ) fZ.out.ok (fun hx=>by have:=fZ.out.eJ hx;rw[sZ];omega) (eC.own (w0:=w8) (by rw[sZ];exact dP) (fun k hk=>by have:=pE.out.lt k hk.1;have:=SA.out.size;omega) (fun x hx=>by
       obtain⟨i,hi,rfl⟩:=(vK j1 ws x).1 hx;have wF:=gG j1.s (j1.used+(i+1)) fZ.out.log;have fF:=fZ.out.log2;refine⟨by show j1.place (i+1)≤_;unfold JL.place;omega,?_⟩
       have ET:((ws.map (·.2)++[ag]).getD i []).length=256:=by
        have pK:i<(ws.map (·.2)++[ag]).length:=by simp;omega
        refine af.d8 (fun s hs=>?_) pK
        rcases My.1 hs with hs|hs
        ·obtain⟨y,hy,rfl⟩:=MD.1 hs
         exact(HW.out.2.2 y hy).2
        ·rw[Mo] at hs;subst hs;exact jk
       show((ws.map (·.2)++[ag]).getD i []).length≤_
       rw[ET];omega)) (by rw[sZ];omega) (fun hc=>hc.2 rfl)
      have dJ:j1.com ws=if (j1.cj ws).2≠0 then({ j1 with d:=(j1.cj ws).1 },(j1.cj ws).2) else if (j1.cJ ws).2≠0 then({ j1 with d:=(j1.cJ ws).1 },(j1.cJ ws).2) else
       ({ j1 with d:=(j1.eS ws).1 }.advance ws.length,(j1.eS ws).2):=rfl
      have cO:j1.d.lays (j1.ed ws)=j1.cj ws:=rfl;rw[cO] at bL;have aax:=Hd bL;have SB:=Hd (pJ.out.trans dJ);have jK:=Hd kJ;have mg:(j1.cj ws).1.Ok:=af.dm fZ.out.ok _;have Kq:=Hd mg;clear dP kJ bL dJ cO mg;go_wp2_with fail;refine aax.out.mono ?_;rintro e w12 ⟨rfl,OZ,t12⟩;have aC:=cG.step pE.out.box jK.out t12 OZ pE.out.lt pE.out.fp;have mI:=Hd aC;have mD:=Hd (And.intro bJ.out.size (And.intro Me aC.2.size));clear OZ t12 aC;by_cases hz:(j1.cj ws).2=0
      ·have bN:((j1.cj ws).2==0)=true:=MY.2 hz
       have dJ:=SB.out;rw[η (by rw[hz];decide)] at dJ
       have uZ:¬grow F w2 w5 fg:=fun hk=>hk.elim (fun hk=>by have:=HJ.out.lt fg hk;have:=Sq.out.2;omega) (fun hk=>by have:=Sq.out.1;omega)
       have x0:=mI.out.2.cell (iy (Sl.cx Sv.out) U 0 (ah (bK j.next ws)) (by simp[jG])) uZ
       have cpl:∀(W:World),Q w12 W→Calls prog 204 #[au p,.int .i64 0] W fun e w'=>e=.returned (.int .i64 (j1.place 0:Nat))∧Q W w':=fun (W:World) (hq:Q w12 W)=>vZ W p b { j1 with d:=(j1.cj ws).1 } 0 (mI.out.1.box.stays hq) fZ.out.log fZ.out.log2 fZ.out.place fZ.out.used U
       have cl2:=fun (V:World) (hq:Q w12 V) (lv:Value) (ha:eC V (fun k=>grow (grow F w2 w5) w5 w12 k∧k≠p) lv [(j1.place 0,bK j.next ws)])=>yD V (fun k=>grow (grow F w2 w5) w5 w12 k∧k≠p) p b { j1 with d:=(j1.cj ws).1 } lv [(j1.place 0,bK j.next ws)] (mI.out.1.box.stays hq) ((mI.out.1.dev.minus mI.out.1.box).keep hq) Kq.out (fun hx=>by
        show(j1.cj ws).1.p.length+1≤_;rw[show(j1.cj ws).1.p=[] from ql hz];simp) ha κ (fun hc=>hc.2 rfl)
       have dI:({ j1 with d:=(j1.cj ws).1 }:JL).d.lays [(j1.place 0,bK j.next ws)]=j1.cJ ws:=by rw[←qB.out];rfl
       rw[dI] at cl2;have rT:=fun (V:World) (hq:Q w12 V)=>BU (w:=V) (F:=fun k=>grow (grow F w2 w5) w5 w12 k∧k≠p) (j1.place 0,bK j.next ws) (fun hc=>by have:=mI.out.1.lt _ hc.1;have:=hq.size;omega) (by have wF:=gG j1.s (j1.used+0) fZ.out.log;have fF:=fZ.out.log2;show j1.place 0≤_;unfold JL.place;omega) (by show(bK j.next ws).length≤_;rw[nD j.next ws U];omega) 134
       have Bg:(j1.cJ ws).1.Ok:=by rw[←dI];exact af.dm Kq.out _
       have Sk:=Hd cpl;have Zm:=Hd cl2;have zK:=Hd rT;have EY:=Hd dJ;have jY:=Hd Bg;have HNF:=Hd uZ;have pX:¬(grow (grow F w2 w5) w5 w12 fg∧fg≠p):=fun hc=>by
        rcases hc.1 with hk|hk
        ·exact uZ hk
        ·have:=Sq.out.1;have:=mD.out.2.1;omega
       have FI:=Hd pX;have KK:=Hd (Q.refl w12);clear hz dJ cpl cl2 rT dI Bg uZ pX;generalize bK j.next ws=hd at *;generalize j1.place 0=pl0 at *;go_upto_region 18 with fail;go_region_held3 (fun w'=>w'.cell? ⟨fg,0,none⟩=some (ah hd))
        (first|exact g0|exact x0|exact aI δ x0)
        (first
         | (go_at_call 204;with_reducible refine(Sk.out _ ω).mono ?_;rintro e w13 ⟨rfl,q13⟩;have s':Q w12 w13:=Q.trans ω q13;clear KK;have KK:=Hd s';clear s' q13)
         | (go_at_call 205;with_reducible refine(Zm.out _ (Qs.al KK.out _) _ (zK.out _ KK.out)).mono ?_;rintro e w14 ⟨rfl,O0,t14⟩;have g0:=t14.cell (aI (Qs.al KK.out _) x0) FI.out;have tu:=cG.step mI.out.1.box (Qs.al KK.out _) t14 O0 mI.out.1.lt mI.out.1.fp;clear O0 t14;have SC:=Hd tu;clear tu))
       all_goals
        have tu:=SC.out;have SE:=tu.1.back (w:=w5) (by exact Ω _) mD.out.2.2 tu.2.size (fun k hk=>pE.out.lt k hk)
        have SF:ae F w w14:=(D7.out.step ((mI.out.2.step tu.2).mono (fun k hk=>BX mD.out.1 hk)))
        have Mg:cG w14 (grow F w w14) p b { j1 with d:=(j1.cJ ws).1 }:=SE.back mD.out.1 mD.out.2.1 (LS mD.out.2.2 tu.2.size) HJ.out.lt;have Kr:=Hd Mg;have SG:=Hd SF;clear tu SE SF Mg SC g0 x0;by_cases aW:(j1.cJ ws).2=0
        ·have gI:((j1.cJ ws).2==0)=true:=MY.2 aW
         have dJ:=EY.out;rw[η (by rw[aW];decide)] at dJ
         have Kt:=Hd dJ;have cad:=Di w14 p b { j1 with d:=(j1.cJ ws).1 } ws.length Kr.out.box (by exact fZ.out.used) U (by exact fZ.out.next)
         have iq:(j1.cJ ws).1.p=[]:=by
          have:(({ j1 with d:=(j1.cj ws).1 }:JL).d.lays [(j1.place 0,bK j1.next ws)]).2=0:=aW;exact ql this
         have CAD:=Hd cad;have kX:=Hd iq;obtain⟨la,lc,rfl,-⟩:=HL1.out.sl.value;clear aW dJ cad iq;go_wp2_with fail;refine CAD.out.mono ?_;rintro e w15 ⟨rfl,SH,t15,Ku⟩;have Kv:=Kr.out.turned SH rfl t15;have Kw:ae F w w15:=SG.out.trans (t15.mono (fun k hk=>by subst hk;exact HJ.out.fp))
         have d0:=SH.cell 0 (au b) rfl;have dO:eC w15 (fun k=>grow F w w14 k∧k≠p) (.slice la ws.length lc) ws:=by
          have h0:=HL.out.sl.keep Kw;refine⟨⟨h0.1,fun hn=>?_⟩,HL.out.num⟩
          obtain⟨kb,ko,e1,e2,e3⟩:=h0.2 hn;exact⟨kb,ko,e1,e2,fun hk=>e3 (hk.1.elim .inl (fun hk=>.inr ⟨hk.1,by rw[Ku];exact hk.2⟩))⟩
         have cwr:=wY w15 (fun k=>grow F w w14 k∧k≠p) b (j1.cJ ws).1 (.slice la ws.length lc) ws (Kv.dev.minus SH) jY.out (fun _=>by rw[kX.out];simp;omega) dO U
         have OO:(j1.cJ ws).1.writes ws=j1.eS ws:=rfl;rw[OO] at cwr;have CWR:=Hd cwr;have Ky:=Hd Kv;have SI:=Hd Kw;have SK:=Hd Ku;clear t15 Ku Kv Kw dO cwr OO;go_wp2_with fail;refine CWR.out.mono ?_;rintro e w16 ⟨rfl,JC,t16⟩;have Mh:=cG.step Ky.out.box (Q.refl w15) t16 JC Ky.out.lt Ky.out.fp;have Kz:=Hd Mh;clear t16 JC Mh;go_wp2_with fail;go_ret;rw[Kt.out];have SL:ae F w w16:=SI.out.step (Kz.out.2.mono (fun k hk=>hk.elim .inl (fun hk=>.inr ⟨hk.1,by rw[SK.out];exact hk.2⟩)))
         refine⟨rfl,Kz.out.1.mono (fun k hk=>hk.elim (fun hk=>hk.elim .inl (fun hk=>.inr ⟨hk.1,Ψ hk.2 (by rw[←SK.out];exact Kz.out.2.size)⟩)) (fun hk=>.inr ⟨LS SI.out.size hk.1,hk.2⟩)) (fun k hk=>hk.elim (fun hk=>by have:=HJ.out.lt k hk;have:=SL.size;omega) (fun hk=>hk.2)),SL⟩
        ·have gI:((j1.cJ ws).2==0)=false:=Γ.2 aW
         have dJ:=EY.out;rw[Φ aW] at dJ;have Kt:=Hd dJ;clear aW dJ;go_wp2_with fail;go_ret;rw[Kt.out];exact⟨rfl,Kr.out,SG.out⟩
      ·have bN:((j1.cj ws).2==0)=false:=Γ.2 hz
       have dJ:=SB.out;rw[Φ hz] at dJ;have EY:=Hd dJ;clear hz dJ;go_wp2_with fail;go_ret;rw[EY.out];exact⟨rfl,mI.out.1.back mD.out.1 mD.out.2.1 mD.out.2.2 HJ.out.lt,D7.out.step (mI.out.2.mono (fun k hk=>BX mD.out.1 hk))⟩
   ·have hb:(j.cz.2==0)=false:=Γ.2 hz
    have dJ:=OY.out;rw[Φ hz] at dJ;have pJ:=Hd dJ;clear hz dJ;go_wp2_with fail;go_ret;rw[pJ.out];exact⟨rfl,H5.out.mono (fun k hk=>hk.elim .inl (fun hk=>.inr ⟨LS bJ.out.size hk.1,hk.2⟩)) (fun k hk=>hk.elim (fun hk=>by have:=HJ.out.lt k hk;have:=bJ.out.size;omega) (fun hk=>hk.2)),(ae.br (own:=F) (bJ.out.trans (Q.drew _))).trans T5.out⟩
 ·have rQ:¬(j.s.log:Int)-(j.used:Int)<((ws.length+1:Nat):Int)+1:=U
  have dJ:j.bj ws=j.com ws:=by unfold JL.bj;rw[η hroom]
  obtain⟨w5,wJ⟩:∃w5,w5=w2.drew:=⟨_,rfl⟩;have Me:w2.heap.size≤w5.heap.size:=by rw[wJ];exact Ω _
  have Sr:w5.ownsRow w.heap.size 9 1 (.slice (some ⟨fg,0,none⟩) (ws.length+1) fc) (ws.length+1) ((jG j.next ws).map ah):=by rw[wJ];exact HFV.out
  have hT:ae F w w5:=by rw[wJ];exact ae.br (bJ.out.trans (Q.drew _))
  have Sw:eC w5 (grow F w2 w5) lv ws:=by rw[wJ];exact HLX.out.drew
  have VQ:cG w5 (grow F w2 w5) p b j:=by rw[wJ];exact(HJ.out.keep (bJ.out.trans (Q.drew _))).mono (fun k hk=>.inl hk) (fun k hk=>hk.elim (fun hk=>by have:=HJ.out.lt k hk;have h2:=bJ.out.size;have h3:w2.drew.heap.size=w2.heap.size:=rfl;omega) (fun hk=>hk.2))
  obtain⟨j1,DZ⟩:∃j1,j1=j:=⟨_,rfl⟩;rw[←DZ] at VQ;have SN:j.bj ws=j1.com ws:=by rw[DZ];exact dJ
  have EU:fW j1:=by rw[DZ];exact HN.out
  have EW:j1.next=j.next:=by rw[DZ]
  have pJ:=Hd SN;have fZ:=Hd EU;have qB:=Hd EW;have Sv:=Hd Sr;have D7:=Hd hT;have HL1:=Hd Sw;have pE:=Hd VQ;have HW5:=Hd wJ;clear dJ EU EW Sr hT Sw VQ SN DZ wJ;go_wp2_with fail;go_region;all_goals
   rw[←HW5.out];clear HW5;have jl:((ws.map fun x=>(⟨x.2.toArray⟩:ByteArray)).take ws.length).map Value.string=(ws.map (·.2)).map ah:=by
    rw[Mp κ,Rr,Rr];rfl
   have bL:=fun (W:World) (hq:Q w5 W)=>Tryz.slices_Clone_string fg 1 ws.length (fc-1) (ws.map fun x=>⟨x.2.toArray⟩) W κ U (fun i hi=>by
    have pK:i<ws.length:=by simpa using hi
    have h1:=iy (Sl.cx Sv.out) U (1+i) (ah ws[i].2) (by simp[jG,abX 1 i,pK])
    rw[aI hq h1];simp[LR,pK])
   rw[jl] at bL;have bI:=fun (W:World)=>yM W
   obtain⟨i0,qL,bY,bB,aW⟩:=info_parts DN;obtain⟨i1,qG,wH,tN,hy2⟩:=info_parts nC;have p8:=Hd bL;have dY:=Hd bI;clear jl bL bI;go_wp2_with fail;refine(p8.out _ (Q.refl _)).mono ?_;rintro e w6 ⟨cv,rfl,zI,-,q6⟩;have lG:Hid (Q w5 w6):=Hd q6;have CG:=Hd zI;clear q6 zI;go_wp2_with fail;refine(dY.out _).mono ?_;rintro e w7 ⟨rfl,q7⟩;have wK:=lG.out.trans q7;have Sy:=Hd (ownsRow_below CG.out q7);have lJ:=Hd wK;have cO:∀u∈#[ah ag].toList,u.oneCell'=true:=by intro u hu;simp at hu;subst hu;rfl
   have dI:(ws.length+1)*16≤140737488355328:=U;have vg:=Hd cO;have xI:=Hd dI;clear q7 wK cO dI CG;generalize kT:ag=nn at *;go_wp2_with (at_builtin;refine bG w7 ρ _ _ 101 ρ w5.heap.size 9 _ i0 (ah []) 1 16 underlying101 qL bY bB aW rfl Z Z _ _ _ ρ Sy.out #[ah nn] ρ rfl vg.out xI.out lJ.out.size ?_)
   intro g8 cap8 w8 Zr Zt ho8 aav YB;have Mf:Q w5 w8:=bD lJ.out Sy.out Zt (Ω _) lJ.out.size;have Sz:w8.ownsRow w5.heap.size 9 1 (.slice (some ⟨g8,0,none⟩) (ws.length+1) cap8) (ws.length+1) ((oM ws).map ah):=by
    unfold oM;rw[kT,N5,Rr];exact Zr
   have SA:=Hd Mf;have HR8:=Hd Sz;clear Zr Zt ho8 aav YB Mf Sz;go_wp2_with fail;have Iz:w8.ownsRow w8.heap.size 134 2 (.slice none 0 0) 0 (aN ((j1.ed ws).take 0)):=World.ownsRow_nil _ _ _ _;have bW:=fun (W:World) (hq:Q w8 W) (k:Nat) (hk:k≤1000000)=>vZ W p b j1 k (pE.out.box.stays (SA.out.trans hq)) fZ.out.log fZ.out.log2 fZ.out.place fZ.out.used hk
   have kH:=NN j1 ws;have zJ:=Hd bW;have Ad:=Hd kH;have HNN:=Hd kT;clear bW kH kT;go_loopw [9,55] (fun v i wr=>∃k:Nat,i=.int .i64 (k:Nat)∧k≤ws.length+1∧Hid (wr.ownsRow w8.heap.size 134 2 v k (aN ((j1.ed ws).take k)))∧Hid (Q w8 wr)) (fun _ i _=>ws.length+1-(intOf i).toNat)
   case atStart=>exact⟨0,rfl,L0 _,Iz,Hd (Q.refl _)⟩
   case round =>
    obtain⟨k,rfl,hk,HOW,HQr⟩:=hrel;by_cases ay:k<ws.length+1
    ·have bq:(k:Int)<(ws.length:Int)+1:=U
     have EP:(0:Int)≤(k:Int):=U;have nS:k<(oM ws).length:=by rw[NP];exact ay
     have x1:=iy (Sl.cx (ownsRow_below HR8.out HQr.out)) U k (ah (oM ws)[k]) (by simp[nS])
     have fV:=zJ.out wr HQr.out (k+1) U;have aC:=Ad.out k nS;have aaw:=Hd fV;have aX:=Hd aC;clear fV aC;generalize (oM ws)[k]=sk at *;generalize j1.place (k+1)=plk at *;go_wp2_with fail;refine aaw.out.mono ?_;rintro e w10 ⟨rfl,q10⟩;have EX:=HQr.out.trans q10;have Bq:=Hd (ownsRow_below HOW.out q10);have vS:Hid (Q w8 w10):=Hd EX;have cO:∀u∈#[Value.int .i64 (plk:Nat),ah sk].toList,u.oneCell'=true:=by intro u hu;simp at hu;rcases hu with rfl|rfl<;>rfl
     have dI:(k+1)*24≤140737488355328:=U;have qJ:=Hd cO;have uY:=Hd dI;clear q10 EX cO dI x1;go_wp2_with (at_builtin;refine bG w10 ρ _ _ 102 ρ w8.heap.size 134 _ i1 (.agg #[.int .i64 0,ah []]) 2 24 underlying102 qG wH tN hy2 rfl Z Z _ _ _ ρ Bq.out #[.int .i64 (plk:Nat),ah sk] ρ rfl qJ.out uY.out vS.out.size ?_)
     intro g11 jI w11 iB gu lQ jR iC;have zS:Q w8 w11:=bD vS.out Bq.out gu (Ω _) vS.out.size;have gW:w11.ownsRow w8.heap.size 134 2 (.slice (some ⟨g11,0,none⟩) (k+1) jI) (k+1) (aN ((j1.ed ws).take (k+1))):=by
      rw[aX.out,iF,show aN [(plk,sk)]=mX (plk,sk) by simp[aN]];exact iB
     have oz:=Hd zS;have qW:=Hd gW;clear iB gu lQ jR iC zS gW;go_wp2_with fail;go_roundw;case rel=>exact⟨k+1,by go_num,U,qW,oz⟩
     case measure=>simp[intOf];omega
    ·have bq:¬(k:Int)<(ws.length:Int)+1:=U
     obtain rfl:k=ws.length+1:=U;have dP:=HOW.out;rw[Mp (by rw[sZ];exact Ω _)] at dP
     have kJ:Q w5 wr:=SA.out.trans HQr.out;have bL:=yD wr (fun k=>grow F w2 w5 k∧k≠p) p b j1 u9 (j1.ed ws) (pE.out.box.stays kJ) ((pE.out.dev.minus pE.out.box).keep kJ) fZ.out.ok (fun hx=>by have:=fZ.out.eJ hx;rw[sZ];omega) (eC.own (w0:=w8) (by rw[sZ];exact dP) (fun k hk=>by have:=pE.out.lt k hk.1;have:=SA.out.size;omega) (fun x hx=>by
      obtain⟨i,hi,rfl⟩:=(vK j1 ws x).1 hx;have wF:=gG j1.s (j1.used+(i+1)) fZ.out.log;have fF:=fZ.out.log2;refine⟨by show j1.place (i+1)≤_;unfold JL.place;omega,?_⟩
      have ET:((ws.map (·.2)++[ag]).getD i []).length=256:=by
       have pK:i<(ws.map (·.2)++[ag]).length:=by simp;omega
       refine af.d8 (fun s hs=>?_) pK
       rcases My.1 hs with hs|hs
       ·obtain⟨y,hy,rfl⟩:=MD.1 hs
        exact(HW.out.2.2 y hy).2
       ·rw[Mo] at hs;subst hs;exact jk
      show((ws.map (·.2)++[ag]).getD i []).length≤_
      rw[ET];omega)) (by rw[sZ];omega) (fun hc=>hc.2 rfl)
     have dJ:j1.com ws=if (j1.cj ws).2≠0 then({ j1 with d:=(j1.cj ws).1 },(j1.cj ws).2) else if (j1.cJ ws).2≠0 then({ j1 with d:=(j1.cJ ws).1 },(j1.cJ ws).2) else
      ({ j1 with d:=(j1.eS ws).1 }.advance ws.length,(j1.eS ws).2):=rfl
     have cO:j1.d.lays (j1.ed ws)=j1.cj ws:=rfl;rw[cO] at bL;have aax:=Hd bL;have SB:=Hd (pJ.out.trans dJ);have jK:=Hd kJ;have mg:(j1.cj ws).1.Ok:=af.dm fZ.out.ok _;have Kq:=Hd mg;clear dP kJ bL dJ cO mg;go_wp2_with fail;refine aax.out.mono ?_;rintro e w12 ⟨rfl,OZ,t12⟩;have aC:=cG.step pE.out.box jK.out t12 OZ pE.out.lt pE.out.fp;have mI:=Hd aC;have mD:=Hd (And.intro bJ.out.size (And.intro Me aC.2.size));clear OZ t12 aC;by_cases hz:(j1.cj ws).2=0
     ·have bN:((j1.cj ws).2==0)=true:=MY.2 hz
      have dJ:=SB.out;rw[η (by rw[hz];decide)] at dJ
      have uZ:¬grow F w2 w5 fg:=fun hk=>hk.elim (fun hk=>by have:=HJ.out.lt fg hk;have:=Sq.out.2;omega) (fun hk=>by have:=Sq.out.1;omega)
      have x0:=mI.out.2.cell (iy (Sl.cx Sv.out) U 0 (ah (bK j.next ws)) (by simp[jG])) uZ
      have cpl:∀(W:World),Q w12 W→Calls prog 204 #[au p,.int .i64 0] W fun e w'=>e=.returned (.int .i64 (j1.place 0:Nat))∧Q W w':=fun (W:World) (hq:Q w12 W)=>vZ W p b { j1 with d:=(j1.cj ws).1 } 0 (mI.out.1.box.stays hq) fZ.out.log fZ.out.log2 fZ.out.place fZ.out.used U
      have cl2:=fun (V:World) (hq:Q w12 V) (lv:Value) (ha:eC V (fun k=>grow (grow F w2 w5) w5 w12 k∧k≠p) lv [(j1.place 0,bK j.next ws)])=>yD V (fun k=>grow (grow F w2 w5) w5 w12 k∧k≠p) p b { j1 with d:=(j1.cj ws).1 } lv [(j1.place 0,bK j.next ws)] (mI.out.1.box.stays hq) ((mI.out.1.dev.minus mI.out.1.box).keep hq) Kq.out (fun hx=>by
       show(j1.cj ws).1.p.length+1≤_;rw[show(j1.cj ws).1.p=[] from ql hz];simp) ha κ (fun hc=>hc.2 rfl)
      have dI:({ j1 with d:=(j1.cj ws).1 }:JL).d.lays [(j1.place 0,bK j.next ws)]=j1.cJ ws:=by rw[←qB.out];rfl
      rw[dI] at cl2;have rT:=fun (V:World) (hq:Q w12 V)=>BU (w:=V) (F:=fun k=>grow (grow F w2 w5) w5 w12 k∧k≠p) (j1.place 0,bK j.next ws) (fun hc=>by have:=mI.out.1.lt _ hc.1;have:=hq.size;omega) (by have wF:=gG j1.s (j1.used+0) fZ.out.log;have fF:=fZ.out.log2;show j1.place 0≤_;unfold JL.place;omega) (by show(bK j.next ws).length≤_;rw[nD j.next ws U];omega) 134
      have Bg:(j1.cJ ws).1.Ok:=by rw[←dI];exact af.dm Kq.out _
      have Sk:=Hd cpl;have Zm:=Hd cl2;have zK:=Hd rT;have EY:=Hd dJ;have jY:=Hd Bg;have HNF:=Hd uZ;have pX:¬(grow (grow F w2 w5) w5 w12 fg∧fg≠p):=fun hc=>by
       rcases hc.1 with hk|hk
       ·exact uZ hk
       ·have:=Sq.out.1;have:=mD.out.2.1;omega
      have FI:=Hd pX;have KK:=Hd (Q.refl w12);clear hz dJ cpl cl2 rT dI Bg uZ pX;generalize bK j.next ws=hd at *;generalize j1.place 0=pl0 at *;go_upto_region 18 with fail;go_region_held3 (fun w'=>w'.cell? ⟨fg,0,none⟩=some (ah hd))
       (first|exact g0|exact x0|exact aI δ x0)
       (first
        | (go_at_call 204;with_reducible refine(Sk.out _ ω).mono ?_;rintro e w13 ⟨rfl,q13⟩;have s':Q w12 w13:=Q.trans ω q13;clear KK;have KK:=Hd s';clear s' q13)
        | (go_at_call 205;with_reducible refine(Zm.out _ (Qs.al KK.out _) _ (zK.out _ KK.out)).mono ?_;rintro e w14 ⟨rfl,O0,t14⟩;have g0:=t14.cell (aI (Qs.al KK.out _) x0) FI.out;have tu:=cG.step mI.out.1.box (Qs.al KK.out _) t14 O0 mI.out.1.lt mI.out.1.fp;clear O0 t14;have SC:=Hd tu;clear tu))
      all_goals
       have tu:=SC.out;have SE:=tu.1.back (w:=w5) (by exact Ω _) mD.out.2.2 tu.2.size (fun k hk=>pE.out.lt k hk)
       have SF:ae F w w14:=(D7.out.step ((mI.out.2.step tu.2).mono (fun k hk=>BX mD.out.1 hk)))
       have Mg:cG w14 (grow F w w14) p b { j1 with d:=(j1.cJ ws).1 }:=SE.back mD.out.1 mD.out.2.1 (LS mD.out.2.2 tu.2.size) HJ.out.lt;have Kr:=Hd Mg;have SG:=Hd SF;clear tu SE SF Mg SC g0 x0;by_cases aW:(j1.cJ ws).2=0
       ·have gI:((j1.cJ ws).2==0)=true:=MY.2 aW
        have dJ:=EY.out;rw[η (by rw[aW];decide)] at dJ
        have Kt:=Hd dJ;have cad:=Di w14 p b { j1 with d:=(j1.cJ ws).1 } ws.length Kr.out.box (by exact fZ.out.used) U (by exact fZ.out.next)
        have iq:(j1.cJ ws).1.p=[]:=by
         have:(({ j1 with d:=(j1.cj ws).1 }:JL).d.lays [(j1.place 0,bK j1.next ws)]).2=0:=aW;exact ql this
        have CAD:=Hd cad;have kX:=Hd iq;obtain⟨la,lc,rfl,-⟩:=HL1.out.sl.value;clear aW dJ cad iq;go_wp2_with fail;refine CAD.out.mono ?_;rintro e w15 ⟨rfl,SH,t15,Ku⟩;have Kv:=Kr.out.turned SH rfl t15;have Kw:ae F w w15:=SG.out.trans (t15.mono (fun k hk=>by subst hk;exact HJ.out.fp))
        have d0:=SH.cell 0 (au b) rfl;have dO:eC w15 (fun k=>grow F w w14 k∧k≠p) (.slice la ws.length lc) ws:=by
         have h0:=HL.out.sl.keep Kw;refine⟨⟨h0.1,fun hn=>?_⟩,HL.out.num⟩
         obtain⟨kb,ko,e1,e2,e3⟩:=h0.2 hn;exact⟨kb,ko,e1,e2,fun hk=>e3 (hk.1.elim .inl (fun hk=>.inr ⟨hk.1,by rw[Ku];exact hk.2⟩))⟩
        have cwr:=wY w15 (fun k=>grow F w w14 k∧k≠p) b (j1.cJ ws).1 (.slice la ws.length lc) ws (Kv.dev.minus SH) jY.out (fun _=>by rw[kX.out];simp;omega) dO U
        have OO:(j1.cJ ws).1.writes ws=j1.eS ws:=rfl;rw[OO] at cwr;have CWR:=Hd cwr;have Ky:=Hd Kv;have SI:=Hd Kw;have SK:=Hd Ku;clear t15 Ku Kv Kw dO cwr OO;go_wp2_with fail;refine CWR.out.mono ?_;rintro e w16 ⟨rfl,JC,t16⟩;have Mh:=cG.step Ky.out.box (Q.refl w15) t16 JC Ky.out.lt Ky.out.fp;have Kz:=Hd Mh;clear t16 JC Mh;go_wp2_with fail;go_ret;rw[Kt.out];have SL:ae F w w16:=SI.out.step (Kz.out.2.mono (fun k hk=>hk.elim .inl (fun hk=>.inr ⟨hk.1,by rw[SK.out];exact hk.2⟩)))
        refine⟨rfl,Kz.out.1.mono (fun k hk=>hk.elim (fun hk=>hk.elim .inl (fun hk=>.inr ⟨hk.1,Ψ hk.2 (by rw[←SK.out];exact Kz.out.2.size)⟩)) (fun hk=>.inr ⟨LS SI.out.size hk.1,hk.2⟩)) (fun k hk=>hk.elim (fun hk=>by have:=HJ.out.lt k hk;have:=SL.size;omega) (fun hk=>hk.2)),SL⟩
       ·have gI:((j1.cJ ws).2==0)=false:=Γ.2 aW
        have dJ:=EY.out;rw[Φ aW] at dJ;have Kt:=Hd dJ;clear aW dJ;go_wp2_with fail;go_ret;rw[Kt.out];exact⟨rfl,Kr.out,SG.out⟩
     ·have bN:((j1.cj ws).2==0)=false:=Γ.2 hz
      have dJ:=SB.out;rw[Φ hz] at dJ;have EY:=Hd dJ;clear hz dJ;go_wp2_with fail;go_ret;rw[EY.out];exact⟨rfl,mI.out.1.back mD.out.1 mD.out.2.1 mD.out.2.2 HJ.out.lt,D7.out.step (mI.out.2.mono (fun k hk=>BX mD.out.1 hk))⟩
end
end Go.Proofs.YtbkahhebmpehnaaGreatDoor
