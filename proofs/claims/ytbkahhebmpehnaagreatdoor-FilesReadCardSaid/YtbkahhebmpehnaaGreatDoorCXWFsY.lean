/- Joined: WFsY to FilR -/
import Derived.Test.YtbkahhebmpehnaaGreatDoorCXWFsS
set_option linter.all false
set_option maxRecDepth 100000
set_option maxHeartbeats 8000000
namespace Go.Proofs.YtbkahhebmpehnaaGreatDoor
open Go.Proofs.Tryz
section
open Go.RowKit
theorem ce.gO{w:World}{F:Nat→Prop}{sb b:Nat}{σ:StL}{K:Nat}(h:ce w F sb b σ K)(hn:iL σ):Calls prog 42 #[au sb] w fun e w'=>∃v,e=.returned v∧Sl w' v (mW σ.ai (ak σ.n) σ.n).length 2 (ext (mW σ.ai (ak σ.n) σ.n))∧Q w w' :=
 (rm w F sb b σ K h hn).mono fun e w' hx=>by
  obtain⟨v,r1,r2,r3⟩:=hx
  exact⟨v,r1,Sl.cx r2,r3⟩
def jw(fs:Nat)(l:List ax)(k:Nat):List (Nat×Nat):=(fs,12)::nJ (l.take k)
theorem Vb(fs:Nat)(l:List ax)(k:Nat)(h:k<l.length):jw fs l (k+1)=jw fs l k++l[k].ext:=by
 unfold jw;rw[NY l k h];rfl
theorem Cf(b:Bytes)(lo k:Nat):(dR b lo k).length≤k:=by
 induction k with
 | zero=>simp[dR]
 | succ k ih =>
  rw[dR];split
  ·split
   ·split
    ·simp;omega
    ·simp;omega
   ·simp
  ·omega
theorem rf(x:List (Nat×Nat))(h:∀e∈x,e.2≤4096):total x≤4096*x.length:=by rw[←J9];exact Bc x h
theorem Gy(a b:List (Nat×Nat)):total (a++b)=total a+total b:=by simp[total]
theorem aan(w:World)(F:Nat→Prop)(fb sb b:Nat)(φ:FsL)(K:Nat)(v:Value){KI:Nat}{fr:List (List WrL)}{C:Nat→Bytes}(h:FsG w F fb sb b φ K v)(hI:bz KI φ fr C)(gM:KI<18446744073709551616):
  Calls prog 16 #[au fb] w fun e w'=>e=.returned (.bool true)∧Q w w':=by
 obtain⟨i0,hi,bY,bB,aW⟩:=info_parts zl;have hn:iL φ.st:=hI.st.num gM;have iH:=hn.max;have hroom:=hI.good.room;have bQ:=hI.good.ok;obtain⟨aew,YQ⟩:=hI.count;replace YQ:φ.used+φ.st.free=φ.st.n-ak φ.st.n:=YQ;have eP:=fun X (q:Q w X)=>(h.st.keep q).lA iH
 have dZ:=fun X (q:Q w X)=>(h.st.keep q).hlen
 have Co:∀X,Q w X→Calls prog 40 #[v,.int .i64 ((ak φ.st.n:Int)+12),.int .i64 (φ.st.n:Nat)] X fun e w'=>e=.returned (.bool true)∧Q X w':=fun X q=>by
  have:=Ke v φ.l (ak φ.st.n+12) φ.st.n X (h.keep q).files.s bQ iH;rwa [show((ak φ.st.n+12:Nat):Int)=(ak φ.st.n:Int)+12 by omega] at this
 have pO:=fun X (q:Q w X)=>(h.st.keep q).gO hn
 have Wd:=fun X (q:Q w X)=>N9 X F fb sb b φ K v (h.keep q) hn U
 have TD:total (jw (ak φ.st.n) φ.l φ.l.length)=φ.used:=by
  unfold jw;rw[M1,aew];show 12+total (nJ φ.l)=_;rw[←J9,NW,QM bQ.ok]
 have aex:∀e∈jw (ak φ.st.n) φ.l φ.l.length,(∃u∈mW φ.st.ai (ak φ.st.n) φ.st.n,inE e u=true)∧e.1+e.2≤1000000:=fun e he=>by
  unfold jw at he;rw[M1] at he;have hc:e=(ak φ.st.n,12)∨∃f∈φ.l,e∈f.ext:=by
   rcases MA.1 he with he|he
   ·exact .inl he
   ·obtain⟨f,hf,he⟩:=Pi.1 he
    exact .inr ⟨f,hf,he⟩
  obtain⟨r,hr,r1,r2⟩:=hI.cover hc;refine⟨⟨r,hr,MM ⟨r1,r2⟩⟩,?_⟩;rcases hc with rfl|⟨f,hf,he⟩
  ·simp only;omega
  ·have:=(bQ.ok f hf).ext e he;omega
 have aey:∀(k:Nat) (hk:k<φ.l.length) (j:Nat),total (jw (ak φ.st.n) φ.l k++φ.l[k].ext.take j)≤100000000∧(jw (ak φ.st.n) φ.l k++φ.l[k].ext.take j).length≤10000:=fun k hk j=>by
  have hm:∀e∈jw (ak φ.st.n) φ.l k++φ.l[k].ext.take j,e.2≤4096:=fun e he=>by
   rcases My.1 he with he|he
   ·unfold jw at he
    rcases MA.1 he with rfl|he
    ·show 12≤4096
     decide
    ·obtain⟨f,hf,he⟩:=Pi.1 he
     have:=(bQ.ok f (P3 hf)).ext e he;omega
   ·have:=(bQ.ok _ (LO hk)).ext e (P3 he);omega
  have h1:=Ka bQ.ok k;have h2:=(bQ.ok _ (LO hk)).few;have h3:=bQ.few;have hl:(jw (ak φ.st.n) φ.l k++φ.l[k].ext.take j).length≤2000:=by
   unfold jw;rw[Δ,Θ,L4];omega
  have:=rf _ hm;omega
 have jy:(jw (ak φ.st.n) φ.l φ.l.length).length≤2000:=by
  have h1:=Ka bQ.ok φ.l.length;have h3:=bQ.few;unfold jw;rw[Θ];omega
 have hub:∀u∈mW φ.st.ai (ak φ.st.n) φ.st.n,u.1+u.2≤1000000:=fun u hu=>by
  rw[yC _ _ _ hI.st.map.low U] at hu;have:=BN _ _ _ u hu;omega
 have nk:(mW φ.st.ai (ak φ.st.n) φ.st.n).length≤100000:=by
  rw[yC _ _ _ hI.st.map.low U];have:=Cf φ.st.ai (ak φ.st.n) (φ.st.n-ak φ.st.n);omega
 have ab7:=fun (k:Nat) (hk:k<φ.l.length)=>bQ.ok _ (LO hk)
 obtain⟨c0,c1,c2,_⟩:=h.box.c4;have hc0:=c0;obtain⟨la,lc,rfl,aC⟩:=h.files.s.value;have rF:ak φ.st.n≤4096:=U;have hlen:=bQ.few;have iW:=Hd eP;have iV:=Hd dZ;have LX:=Hd Co;have Tf:=Hd pO;have HUF:=Hd Wd;have aeA:=Hd TD;have aeB:=Hd aex;have ab8:=Hd ab7;have aX:=Hd aC;have aiO:=Hd aey;have HUB:=Hd hub;have VX:=Hd nk;have HC0:=Hd hc0;clear hc0 aey hub nk eP dZ Co pO Wd TD aex ab7 aC h hI aew YQ bQ hn hroom;generalize ak φ.st.n=fs at *;have e12:IntKind.i64.wrap ((fs:Int)+12)=(fs:Int)+12:=IntWalk.i64_in _ U;go_enter func16,ntmps16;go_wp2_with fail;refine(iW.out _ (Q.refl w)).mono ?_;rintro e w1 ⟨rfl,rfl⟩;go_wp2_with fail;have KK:=Hd (Q.refl w)
 (go_region_held3 (fun w'=>w'.cell? ⟨fb,1,none⟩=some (au b)∧w'.cell? ⟨fb,2,none⟩=some (.slice la φ.l.length lc))
  (first|exact⟨c1,c2⟩|exact two δ c1 c2)
  (first
   | (go_at_call 41;with_reducible refine(iV.out _ ω).mono ?_;rintro e w3 ⟨rfl,rfl⟩)
   | (go_at_call 40;with_reducible refine(LX.out _ ω).mono ?_;rintro e w3 ⟨rfl,q3⟩;have s':Q w w3:=Q.trans ω q3;clear KK;have KK:=Hd s';clear s' q3)))
 have Q3:=Hd KK.out;replace c0:=aj KK.out c0;replace c1:=aj KK.out c1;replace c2:=aj KK.out c2;clear KK;go_wp2_with fail;refine(iW.out _ Q3.out).mono ?_;rintro e w4 ⟨rfl,rfl⟩;have dP:=World.ownsRow_lit (e:=87) (size:=2) w3 #[.int .i64 (fs:Nat),.int .i64 12] 1 (Ω _) Z κ;have qr:=Q.alloc w3 (.cells #[.int .i64 (fs:Nat),.int .i64 12] 87);obtain⟨wb,rV⟩:∃wb,wb=w3.alloc (.cells #[.int .i64 (fs:Nat),.int .i64 12] 87):=⟨_,rfl⟩;rw[←rV] at dP qr;replace c0:=aj qr c0;replace c1:=aj qr c1;replace c2:=aj qr c2;have lu:=Hd dP;have QB:=Hd qr;have Pq:=Hd qr.size;clear dP qr;go_upto_region 6 with fail;rw[←rV];clear rV;go_wp2_with fail;go_loopw [4,5,43] (fun nv av i wr=>∃k:Nat,i=.int .i64 (k:Nat)∧k≤φ.l.length∧nv=.int .i64 (total (jw fs φ.l k):Nat)∧Hid (wr.ownsRow w3.heap.size 87 2 av (jw fs φ.l k).length (ext (jw fs φ.l k)))∧Hid (Q w3 wr)) (fun _ _ i _=>φ.l.length-(intOf i).toNat)
 case atStart=>exact⟨0,rfl,L0 _,by unfold jw;rw[R0];rfl,by unfold jw;rw[R0];exact lu,QB⟩
 case round =>
  obtain⟨k,rfl,hk,rfl,HO,HQ⟩:=hrel;by_cases ay:k<φ.l.length
  ·have bq:(k:Int)<(φ.l.length:Int):=U
   have lT:(0:Int)≤(k:Int):=U;obtain⟨lb,lo,rfl,hd⟩:=aX.out U;obtain⟨av,x0,x1,x2,x3,bX⟩:=hd k ay;obtain⟨ea,ec,rfl,hex⟩:=jS bX;replace x0:=aj (Q3.out.trans HQ.out) x0;replace x1:=aj (Q3.out.trans HQ.out) x1;replace x2:=aj (Q3.out.trans HQ.out) x2;replace x3:=aj (Q3.out.trans HQ.out) x3;have nA:=Vb fs φ.l k ay;have uf:=aiO.out k ay;have xK:=(ab8.out k ay).few;have pF:=fun (j:Nat) (hj:j<φ.l[k].ext.length)=>(ab8.out k ay).ext _ (LO hj)
   have qx:=Q.alloc wr (.cells #[ah φ.l[k].name,.bool φ.l[k].sl,.int .i64 (φ.l[k].size:Nat),.slice ea φ.l[k].ext.length ec] 48);have bZ:=Blk.new wr 48 #[ah φ.l[k].name,.bool φ.l[k].sl,.int .i64 (φ.l[k].size:Nat),.slice ea φ.l[k].ext.length ec];have HOX:=Hd (ownsRow_below HO.out qx);have HQX:=Hd (HQ.out.trans qx);have ou:=Hd bZ;have BF:=Hd hex;have CQ:=Hd (And.intro ay nA);have HBN:=Hd uf;have HFE:=Hd pF;clear qx bZ hex nA uf bX hd pF hk HO HQ;generalize φ.l[k]=f at *;obtain⟨fn,fsl,fsz,fx⟩:=f;simp only[] at *;go_upto_region 9 with fail;obtain⟨b0,b1,b2,b3,_⟩:=ou.out.c4;generalize wr.alloc (.cells #[ah fn,.bool fsl,.int .i64 (fsz:Nat),.slice ea fx.length ec] 48)=wx at *;go_wp2_with fail;clear b0 b1 b2 b3 x0 x1 x2 x3 ou;generalize hE:jw fs φ.l k=E at *;go_loopw [4,5,50] (fun nv av i wr=>∃j:Nat,i=.int .i64 (j:Nat)∧j≤fx.length∧nv=.int .i64 (total (E++fx.take j):Nat)∧Hid (wr.ownsRow w3.heap.size 87 2 av (E++fx.take j).length (ext (E++fx.take j)))∧Hid (Q w3 wr)) (fun _ _ i _=>fx.length-(intOf i).toNat)
   case atStart=>exact⟨0,rfl,L0 _,by rw[R0,NF],by rw[R0,NF];exact HOX,HQX⟩
   case round =>
    obtain⟨j,rfl,hj,rfl,Pn,Po⟩:=hrel;obtain⟨wi,rfl⟩:∃wi:World,wi=wr:=⟨_,rfl⟩;by_cases FP:j<fx.length
    ·have ZV:(j:Int)<(fx.length:Int):=U
     have Bn:(0:Int)≤(j:Int):=U;obtain⟨eb,eo,rfl,ZM⟩:=BF.out U;obtain⟨y0,y1⟩:=ZM j FP;replace y0:=aj (Q3.out.trans Po.out) y0;replace y1:=aj (Q3.out.trans Po.out) y1;have hb1:=HBN.out (j+1);have kH:E++fx.take (j+1)=(E++fx.take j)++[fx[j]]:=by rw[Mb FP,Mm]
     have Ad:=Hd kH;rw[kH] at hb1;rw[Gy,Δ,show total [fx[j]]=fx[j].2 by simp[total]] at hb1
     clear kH ZM;generalize fx[j]=y at *;obtain⟨ya,yc⟩:=y;simp only[Θ,Nm] at y0 y1 hb1;obtain⟨E2,hE2⟩:∃E2,E2=E++fx.take j:=⟨_,rfl⟩;rw[←hE2] at Pn Ad hb1 ⊢;clear hE2;have q1:=Q.alloc wi (.cells #[.int .i64 (ya:Nat),.int .i64 (yc:Nat)] 87);have bN:=Blk.new wi 87 #[.int .i64 (ya:Nat),.int .i64 (yc:Nat)];have q2:=Q.alloc (wi.alloc (.cells #[.int .i64 (ya:Nat),.int .i64 (yc:Nat)] 87)) (.cells #[.int .i64 (ya:Nat),.int .i64 (yc:Nat)] 87);have kr:=Sl.lit (wi.alloc (.cells #[.int .i64 (ya:Nat),.int .i64 (yc:Nat)] 87)) #[.int .i64 (ya:Nat),.int .i64 (yc:Nat)] 87 1 2 rfl;rw[World.size_alloc] at kr;have H1:Hid (∀u∈[Value.int .i64 (ya:Nat),Value.int .i64 (yc:Nat)],u.oneCell'=true):=Hd (by intro u hu;simp at hu;rcases hu with rfl|rfl<;>rfl)
     have H2:Hid (E2.length+1≤maxLen):=Hd (by unfold maxLen;omega)
     have H3:Hid ((E2.length+1)*16≤140737488355328):=Hd U;have V7:=Hd (ownsRow_below (ownsRow_below Pn.out q1) q2);have HQC:=Hd (Po.out.trans (q1.trans q2));have H4:=Hd (LS Pq.out (Ω wb.heap.size));have ZW:=Hd kr;have qC:=Hd (bN.stays q2);have qP:=fun g hg=>(Pn.out.lt g hg).2
     have BH:=Hd qP;have e1:IntKind.i64.wrap ((total E2:Int)+(yc:Int))=((total E2+yc:Nat):Int):=by rw[IntWalk.i64_in _ U];omega
     obtain⟨p0,p1,_⟩:=bN.c2;have H5:=Hd HQC.out.size;clear q1 q2 kr qP bN hb1 H4;go_wp2_with (at_builtin;go_must (refine fM ((wi.alloc (.cells #[.int .i64 (ya:Nat),.int .i64 (yc:Nat)] 87)).alloc (.cells #[.int .i64 (ya:Nat),.int .i64 (yc:Nat)] 87)) ρ _ _ 46 ρ w3.heap.size 87 i0 (.agg #[.int .i64 0,.int .i64 0]) 2 16 underlying46 hi bY bB aW rfl Z _ _ _ ρ V7.out _ 1 _ ρ ZW.out H1.out H2.out H3.out H5.out ?_))
     intro v' w4 Cq lV _;have lH:=Hd (Below.grown HQC.out lV H5.out (fun j hj=>(V7.out.lt j hj).1))
     have sN:Blk w4 wi.heap.size 87 #[.int .i64 (ya:Nat),.int .i64 (yc:Nat)]:=(lV.block _ qC.out.lt (fun e=>absurd (BH.out _ e.symm) (TE _))).trans qC.out
     obtain⟨r0,r1,_⟩:=sN.c2;have Pf:=Hd Cq;clear Cq lV sN p0 p1 y0 y1;go_wp2_with fail;go_roundw;case rel=>exact⟨j+1,by go_num,FP,by rw[Ad.out,Gy,show total [(ya,yc)]=yc by simp[total],abl],Hd (by rw[Ad.out,Δ,jP];exact Pf.out),lH⟩
     case measure=>simp[intOf];omega
    ·obtain rfl:j=fx.length:=U
     have ZV:¬(fx.length:Int)<(fx.length:Int):=U;rw[M1] at Pn ⊢;go_wp2_with fail;go_roundw;case rel=>exact⟨k+1,by go_num,CQ.out.1,by rw[CQ.out.2],by rw[CQ.out.2];exact Pn,Po⟩
     case measure=>have:=CQ.out.1;simp[intOf];omega
  ·obtain rfl:k=φ.l.length:=U
   have bq:¬(φ.l.length:Int)<(φ.l.length:Int):=U;have dP:=HO.out;obtain⟨ga,gc,rfl,Mw⟩:=aY dP;have hall:=Sl.cx dP;obtain⟨ga',gc',he,L8⟩:=jS hall;simp only[Value.slice.injEq,aeN] at he;obtain⟨rfl,rfl⟩:=he;have HAC:=Hd L8;clear Mw hall L8 dP HO;have QW:=Hd (Q3.out.trans HQ.out);have z0:=aj QW.out HC0.out;have zI:=aeB.out;have JF:=aeA.out;generalize jw fs φ.l φ.l.length=A at *;have CG:=Hd zI;have nW:=Hd JF;clear zI JF aeB aeA;go_wp2_with fail;refine(Tf.out _ QW.out).mono ?_;rintro e w5 ⟨uv,rfl,aaV,q5⟩;have QU:=Hd q5;obtain⟨ua,uc,rfl,hux⟩:=jS aaV;clear hux;have Z0:=fun (X:World) (q:Q w5 X) (B:Nat) (j:Nat) (hj:j<A.length) (hb:Blk X B 87 #[.int .i64 (A[j].1:Nat),.int .i64 (A[j].2:Nat)])=>PU A[j] B _ _ X (aaV.stays q) hb (CG.out _ (LO hj)).2 HUB.out VX.out (CG.out _ (LO hj)).1
   have HCT:=Hd Z0;clear Z0 q5 aaV z0;generalize (mW φ.st.ai fs φ.st.n).length=un at *;go_wp2_with fail;go_loopw [71] (fun i wq=>∃j:Nat,i=.int .i64 (j:Nat)∧j≤A.length∧Hid (Q w5 wq)) (fun i _=>A.length-(intOf i).toNat)
   case atStart=>exact⟨0,rfl,L0 _,Hd (Q.refl _)⟩
   case round =>
    obtain⟨j,rfl,hj,HJ⟩:=hrel;have QJ:=Hd (QW.out.trans (QU.out.trans HJ.out));by_cases FP:j<A.length
    ·have ZV:(j:Int)<(A.length:Int):=U
     have Bn:(0:Int)≤(j:Int):=U;obtain⟨gb,gf,rfl,kR⟩:=HAC.out U;obtain⟨y0,y1⟩:=kR j FP;replace y0:=aj (QU.out.trans HJ.out) y0;replace y1:=aj (QU.out.trans HJ.out) y1;have qx:=Q.alloc wr (.cells #[.int .i64 (A[j].1:Nat),.int .i64 (A[j].2:Nat)] 87);have Z0:=HCT.out _ (HJ.out.trans qx) wr.heap.size j FP (Blk.new wr _ _);have HX:=Hd Z0;have Vy:=Hd (HJ.out.trans qx);clear qx Z0 kR;generalize A[j]=y at *;obtain⟨ya,yc⟩:=y;simp only[] at y0 y1 HX Vy;go_wp2_with fail;refine HX.out.mono ?_;rintro e w7 ⟨rfl,q7⟩;have HJ7:=Hd (Vy.out.trans q7);clear q7 y0 y1;go_wp2_with fail;go_roundw;case rel=>exact⟨j+1,by go_num,FP,HJ7⟩
     case measure=>simp[intOf];omega
    ·obtain rfl:j=A.length:=U
     have ZV:¬(A.length:Int)<(A.length:Int):=U;have Wd:=HUF.out _ QJ.out;rw[←nW.out] at Wd;have HU:=Hd Wd;clear Wd;go_wp2_with fail;refine HU.out.mono ?_;rintro e w7 ⟨rfl,q7⟩;have Q7:=Hd (QJ.out.trans q7);clear q7;go_wp2_with fail;go_ret;exact⟨rfl,Q7.out⟩
end
section
open Go.RowKit
section
variable {w:World} {F:Nat→Prop} {fb sb b:Nat} {φ:FsL} {K:Nat} {v:Value}
theorem FsG.set3(h:FsG w F fb sb b φ K v)(s:Bytes):FsG (w.setCell ⟨fb,3,none⟩ (ah s)) F fb sb b ⟨φ.st,φ.l,s⟩ K v∧ae (fun k=>k=fb) w (w.setCell ⟨fb,3,none⟩ (ah s)):=by
 have t:ae (fun k=>k=fb) w (w.setCell ⟨fb,3,none⟩ (ah s)):=ae.setCell (a:=⟨fb,3,none⟩) (ae.refl (fun k=>k=fb) w) (.inl rfl) _
 exact⟨⟨h.st.beside t (fun k hk e=>h.nb (e▸hk)),h.box.set 3 (ah s),h.nb,h.files.bh t (fun k hk e=>hk (.inr e))⟩,t⟩
theorem FsG.set2(h:FsG w F fb sb b φ K v){v':Value}{l:List ax}(hv:ci (fun k=>¬own F fb k) w v' l):FsG (w.setCell ⟨fb,2,none⟩ v') F fb sb b ⟨φ.st,l,φ.packed⟩ K v'∧ae (fun k=>k=fb) w (w.setCell ⟨fb,2,none⟩ v'):=by
 have t:ae (fun k=>k=fb) w (w.setCell ⟨fb,2,none⟩ v'):=ae.setCell (a:=⟨fb,2,none⟩) (ae.refl (fun k=>k=fb) w) (.inl rfl) _
 exact⟨⟨h.st.beside t (fun k hk e=>h.nb (e▸hk)),h.box.set 2 v',h.nb,hv.bh t (fun k hk e=>hk (.inr e))⟩,t⟩
theorem RdS.first{w0:World}{B:Nat}{l:Bytes}(h:RdS w0 w F fb sb b φ K v B l)(hn:φ.st.n≤4096):Calls prog 39 #[au sb] w fun e w'=>e=.returned (.int .i64 (ak φ.st.n:Nat))∧w=w':=by
 obtain⟨G1,h1,_⟩:=h.k;exact h1.st.lA hn
end
theorem Rf(w:World)(F:Nat→Prop)(b:Nat)(d:af)(most:Nat)(l:List ax)(h:cF w F b d)(hF:∀k,F k→k<w.heap.size)(hd:d.Ok)(hp:d.dead=false→d.p.length≤800000)(hm:64≤most∧most≤1024)(ho:DK d){KI:Nat}{fr:List (List WrL)}{C:Nat→Bytes}(hI:bz KI (ng d l) fr C)(gM:KI<18446744073709551616):
  Calls prog 35 #[au b,.int .i64 (most:Nat)] w fun e w'=>∃fb,e=.returned (.tuple #[au fb,.int .i64 0])∧(∃(G:Nat→Prop) (sb:Nat),kl w' G fb sb b (ng d l) 12∧∀k,G k→grow F w w' k)∧w.heap.size≤fb∧ae F w w':=by
 have fB:=QH w F b d most h hF hd hp hm ho;have hn:iL (aV d):=hI.st.num gM;have iH:=hn.max;have hroom:ak (aV d).n+12≤(aV d).n:=hI.good.room;have bW:(bR l).length=3072:=kg hI.good.fits;have mO:(aV d).tx=[]:=hI.st.closed hI.closed;have dz:∀k:Nat,k<12→(aV d).read ((ak (aV d).n:Int)+(k:Int))=(aG (bR l) k,0):=fun k hk=>by
  have h1:(aV d).dead=false:=hI.alive;have h2:(aV d).cQ ((ak (aV d).n:Int)+(k:Int))=true:=by unfold StL.cQ;simp;omega
  have h3:(aV d).get (ak (aV d).n+k)=aG (bR l) k:=by
   have lK:63≤ak (aV d).n:=by unfold ak;omega
   have:=hI.st.get (ak (aV d).n+k) U (by show _<(aV d).n;omega)
   rw[show(ng d l).st=aV d from rfl,mO] at this
   rw[this];exact hI.good.dir k hk
  unfold StL.read;rw[h1,h2,η Z,Φ rfl,show((ak (aV d).n:Int)+(k:Int)).toNat=ak (aV d).n+k by omega,h3]
 have nV:=fun (X:World)=>vt l _ _ X hI.good.ok iH hI.good.fits
 have hwh:=fun (X:World) (G:Nat→Prop) (fb sb:Nat) (v:Value) (hX:FsG X G fb sb b (ng d l) 12 v)=>aan X G fb sb b (ng d l) 12 v hX hI gM
 have xV:(ng d l).st=aV d:=rfl;have vB:=Hd fB;have HN:=Hd hn;have iO:=Hd dz;have zL:=Hd nV;have HWH:=Hd hwh;have zJ:=Hd bW;clear fB hn dz nV hwh mO hroom hI hd hp ho h xV;obtain⟨σ,hσ⟩:∃σ,σ=aV d:=⟨_,rfl⟩;have aiP:σ.n≤4096:=by rw[hσ];exact iH
 have rF:ak σ.n≤5000:=by unfold ak aD;omega
 have aC:(⟨(aL d).1,mapD (aL d).1.d,[],false,[]⟩:StL)=σ:=hσ.symm;rw[aC] at vB;rw[←hσ] at HN iO;have HSG:=Hd hσ;clear aC hσ;go_enter func35,ntmps35;go_wp2_with fail;refine vB.out.mono ?_;rintro e w1 ⟨sb,rfl,h1,t1⟩;have hg:=FsG.new h1;have kS:=RdS.new hg;have T1:=Hd t1;have xO:=Hd kS;have HGN:=Hd hg;clear h1 t1 hg kS;go_wp2_with fail;obtain⟨w2,gD⟩:∃w2,w2=w1.alloc (.cells #[au sb,au b,.slice none 0 0,ah []] 72):=⟨_,rfl⟩;have aeC:w2=w1.alloc (.cells #[au sb,au b,.slice none 0 0,.string { data:=#[] }] 72):=gD;have hB:w2.heap.size=w1.heap.size+1:=by rw[gD,World.size_alloc]
 rw[←gD] at xO HGN;rw[hB] at xO;rw[←aeC];have OD:w1.heap.size<w2.heap.size:=by rw[gD,World.size_alloc];exact acw _
 have bJ:Hid (Q w1 w2):=Hd (by rw[gD];exact Q.alloc _ _)
 clear gD aeC;go_loopw [26] (fun i wr=>∃k:Nat,i=.int .i64 (k:Nat)∧k≤12∧Hid (RdS w2 wr (grow F w w1) w1.heap.size sb b ⟨σ,[],[]⟩ (0+k) (.slice none 0 0) (w1.heap.size+1) ((bR l).take (256*k)))) (fun i _=>12-(intOf i).toNat)
 case atStart=>exact⟨0,rfl,L0 _,xO⟩
 case round =>
  obtain⟨k,rfl,hk,HR⟩:=hrel;by_cases ay:k<12
  ·have bq:(k:Int)<12:=U
   have lT:(0:Int)≤(k:Int):=U;have eP:=HR.out.first aiP
   have ug:=HR.out.read ((ak σ.n:Int)+(k:Int)) HN.out U;rw[show(⟨σ,[],[]⟩:FsL).st=σ from rfl,iO.out k ay] at ug
   rw[show(⟨σ,[],[]⟩:FsL).st=σ from rfl] at eP
   simp only[] at ug;have fV:(aG (bR l) k).length=256:=ni zJ.out ay;have htp:=NV (bR l) k;have jB:=fun (X:World) (hX:RdS w2 X (grow F w w1) w1.heap.size sb b ⟨σ,[],[]⟩ (0+k+1) (.slice none 0 0) (w1.heap.size+1) ((bR l).take (256*k)))=>hX.write (aG (bR l) k) (by rw[L4];omega)
   rw[htp] at jB;have e1:IntKind.i64.wrap ((ak σ.n:Int)+(k:Int))=(ak σ.n:Int)+(k:Int):=IntWalk.i64_in _ U;have iW:=Hd eP;have Ie:=Hd ug;have vC:=Hd jB;clear eP ug jB htp fV;generalize aG (bR l) k=t at *;go_wp2_with fail;refine iW.out.mono ?_;rintro e w3 ⟨rfl,rfl⟩;go_wp2_with fail;refine Ie.out.mono ?_;rintro e w4 ⟨rfl,h4⟩;have Fq:=vC.out w4 h4;have HW4:=Hd Fq;clear h4 Fq;go_wp2_with fail;refine HW4.out.mono ?_;rintro e w5 ⟨rfl,h5⟩;have H5:=Hd h5;clear h5;go_wp2_with fail;go_roundw;case rel=>exact⟨k+1,by go_num,U,H5⟩
   case measure=>simp[intOf];omega
  ·obtain rfl:k=12:=U
   have bq:¬((12:Nat):Int)<12:=U;have zR:=HR.out.str;rw[Mp (by rw[bW];decide)] at zR
   have HS:=Hd zR;clear zR HR;go_wp2_with fail;refine HS.out.mono ?_;rintro e w3 ⟨rfl,h3⟩;obtain⟨G1,x1,x2,x3⟩:=h3;obtain⟨y1,ty⟩:=x1.set3 (bR l);obtain⟨_,_,c2,c3,_,_,f2,f3⟩:=x1.box.c4;have X2:=Hd x2;have X3:=Hd x3;have Y1:=Hd y1;have TY:=Hd ty;clear x1 x2 x3 y1 ty;simp only[] at c3;go_upto_region 15 with fail;generalize w3.setCell ⟨w1.heap.size,3,none⟩ (ah (bR l))=w4 at *;clear c2 c3 f2 f3;obtain⟨_,_,c2,c3,_,_,f2,f3⟩:=Y1.out.box.c4;have nV:=zL.out w4;have HU:=Hd nV;clear nV zL;generalize fV:bR l=pk at *;have kY:=Hd fV;clear fV;go_wp2_with fail;refine HU.out.mono ?_;rintro e w5 ⟨⟨lv,rfl,lI⟩,q5⟩;obtain⟨pa,pc,rfl,_⟩:=lI.s.value;have hf5:ci (fun k=>¬own G1 w1.heap.size k) w5 (.slice pa l.length pc) l:=lI.mono fun k hk _ hc=>by have:=Y1.out.fi k hc;omega
   obtain⟨z1,tz⟩:=(Y1.out.keep q5).set2 hf5;obtain⟨_,_,c2',_,_,_,f2',_⟩:=(Y1.out.keep q5).box.c4;have Z1:=Hd z1;have TZ:=Hd tz;have Q5:=Hd q5;clear c2 c3 f2 f3 lI hf5 z1 tz q5 HU;go_upto_region 16 with fail;generalize w5.setCell ⟨w1.heap.size,2,none⟩ (.slice pa l.length pc)=w6 at *;clear c2' f2';have hwz:=HWH.out w6 G1 w1.heap.size sb (.slice pa l.length pc) (by have:=Z1.out;rw[HSG.out,←kY.out] at this;exact this)
   have HWZ:=Hd hwz;clear hwz HWH;go_wp2_with fail;refine HWZ.out.mono ?_;rintro e w7 ⟨rfl,q7⟩;have Q7:=Hd q7;clear q7;go_wp2_with fail;go_returns;have h1:=T1.out.size;have h3:=X3.out.size;have h4:=TY.out.size;have h5:=Q5.out.size;have h6:=TZ.out.size;have h7:=Q7.out.size;have h2:=bJ.out.size;refine⟨_,rfl,⟨G1,sb,⟨_,by have:=Z1.out.keep Q7.out;rw[HSG.out,←kY.out] at this;exact this⟩,fun k hk=>?_⟩,h1,?_⟩
   ·rcases X2.out k hk with (hk|hk)|hk
    ·exact .inl hk
    ·exact .inr ⟨hk.1,U⟩
    ·exact .inr ⟨U,U⟩
   ·refine⟨Q7.out.os.trans (TZ.out.os.trans (Q5.out.os.trans (TY.out.os.trans (X3.out.os.trans (bJ.out.os.trans T1.out.os))))),Q7.out.tape.trans (TZ.out.tape.trans (Q5.out.tape.trans (TY.out.tape.trans (X3.out.tape.trans (bJ.out.tape.trans T1.out.tape))))),Q7.out.output.trans (TZ.out.output.trans (Q5.out.output.trans (TY.out.output.trans (X3.out.output.trans (bJ.out.output.trans T1.out.output))))),U,fun k hk hn=>?_⟩
    refine(Q7.out.block k U).trans ((TZ.out.block k U (fun hc=>by have h9:k=w1.heap.size:=hc;omega)).trans ((Q5.out.block k U).trans ((TY.out.block k U (fun hc=>by have h9:k=w1.heap.size:=hc;omega)).trans ((X3.out.block k U (fun hc=>?_)).trans ((bJ.out.block k U).trans (T1.out.block k hk hn))))))
    rcases hc with (hc|hc)|hc
    ·exact hn hc
    ·omega
    ·omega
end
section
open Go.RowKit
def GrS(w0 w:World)(G:Nat→Prop)(fb sb b:Nat)(φ:FsL)(K:Nat)(v:Value)(XB:Nat)(a0 a1 a2 ev:Value)(x:List (Nat×Nat)):Prop :=
 ∃G1:Nat→Prop,FsG w G1 fb sb b φ K v∧(∀k,G1 k→grow G w0 w k)∧ae (own G fb) w0 w∧ci (fun k=>¬own G fb k) w0 v φ.l ∧
  G XB∧Blk w XB 48 #[a0,a1,a2,ev]∧¬own G1 fb XB∧w.ownsRow w0.heap.size 87 2 ev x.length (ext x)∧∀g,ev.ownBlock=some g→¬own G1 fb g
section
variable {w0 w w':World} {G:Nat→Prop} {fb sb b:Nat} {φ:FsL} {K:Nat} {v:Value} {XB:Nat} {a0 a1 a2 ev:Value} {x:List (Nat×Nat)}
theorem GrS.k(h:GrS w0 w G fb sb b φ K v XB a0 a1 a2 ev x):FsK w0 w G fb sb b φ K v:=by
 obtain⟨G1,h1,h2,h3,_⟩:=h;exact⟨G1,h1,h2,h3⟩
theorem GrS.box(h:GrS w0 w G fb sb b φ K v XB a0 a1 a2 ev x):Blk w XB 48 #[a0,a1,a2,ev]:=by
 obtain⟨G1,h1,h2,h3,h4,h5,h6,_⟩:=h;exact h6
theorem GrS.row(h:GrS w0 w G fb sb b φ K v XB a0 a1 a2 ev x):w.ownsRow w0.heap.size 87 2 ev x.length (ext x):=by
 obtain⟨G1,h1,h2,h3,h4,h5,h6,h7,h8,_⟩:=h;exact h8
theorem GrS.q(h:GrS w0 w G fb sb b φ K v XB a0 a1 a2 ev x)(q:Q w w'):GrS w0 w' G fb sb b φ K v XB a0 a1 a2 ev x:=by
 obtain⟨G1,h1,h2,h3,h4,h5,h6,h7,h8,h9⟩:=h;exact⟨G1,h1.keep q,fun k hk=>(h2 k hk).imp id fun hk=>⟨hk.1,Ψ hk.2 q.size⟩,h3.trans (ae.br q),h4,h5,h6.stays q,h7,ownsRow_below h8 q,h9⟩
theorem Ki{own:Nat→Prop}{base:Nat}{e:TypeId}{size:Nat}{u:Value}{n:Nat}{xs:List Value}(h:w.ownsRow base e size u n xs)(t:ae own w w')(h2:∀g,u.ownBlock=some g→¬own g):w'.ownsRow base e size u n xs:=by
 refine⟨h.1,?_⟩;rcases h.2 with e|⟨g,cap,cur,rfl,x1,x2,x3⟩
 ·exact .inl e
 ·exact .inr ⟨g,cap,cur,rfl,x1,(t.block g (aJ x2) (h2 g rfl)).trans x2,x3⟩
theorem GrS.alloc(h:GrS w0 w G fb sb b φ K v XB a0 a1 a2 ev x)(c:Int)(hn:iL φ.st)(hK:K+2≤1000000000000000000):
  Calls prog 140 #[au sb,.int .i64 c] w fun e w'=>e=.returned (.tuple #[.int .i64 (φ.st.alloc c).2.1,.int .i64 (φ.st.alloc c).2.2])∧GrS w0 w' G fb sb b { φ with st:=(φ.st.alloc c).1 } (K+2) v XB a0 a1 a2 ev x:=by
 obtain⟨G1,h1,h2,h3,h4,h5,h6,h7,h8,h9⟩:=h;refine(K8 w G1 sb b φ.st K c h1.st hn hK).mono fun e w' hx=>⟨hx.1,?_⟩
 have t:=hx.2.2;have bP:=t.size;have h3s:=h3.size;have h6l:=h6.lt;have vw:=h8.lt;have JJ:=h1.call hx.2.1 t;refine⟨_,JJ,fun k hk=>?_,?_,h4,h5,t.blk h6 (fun hc=>h7 (.inl hc)),fun hc=>?_,Ki h8 t (fun g hg hc=>h9 g hg (.inl hc)),fun g hg hc=>?_⟩
 ·rcases hk with hk|hk
  ·exact(h2 k hk).imp id fun hk=>⟨hk.1,U⟩
  ·exact .inr ⟨U,hk.2⟩
 ·refine⟨t.os.trans h3.os,t.tape.trans h3.tape,t.output.trans h3.output,U,fun k hk hn=>(t.block k U (fun hc=>?_)).trans (h3.block k hk hn)⟩
  rcases h2 k hc with hc|hc
  ·exact hn (.inl hc)
  ·omega
 ·rcases hc with (hc|hc)|hc
  ·exact h7 (.inl hc)
  ·omega
  ·exact h7 (.inr hc)
 ·have:=(vw g hg).2
  rcases hc with (hc|hc)|hc
  ·exact h9 g hg (.inl hc)
  ·omega
  ·exact h9 g hg (.inr hc)
theorem GrS.turned(h:GrS w0 w G fb sb b φ K v XB a0 a1 a2 ev x){ev':Value}{x':List (Nat×Nat)}(t:ae (fun k=>k=XB∨ev.ownBlock=some k) w w')(hb:Blk w' XB 48 #[a0,a1,a2,ev'])(hr:w'.ownsRow w0.heap.size 87 2 ev' x'.length (ext x'))(hf:ev'.ownBlock=ev.ownBlock∨∃g,ev'.ownBlock=some g∧w.heap.size≤g):GrS w0 w' G fb sb b φ K v XB a0 a1 a2 ev' x':=by
 obtain⟨G1,h1,h2,h3,h4,h5,h6,h7,h8,h9⟩:=h;have bP:=t.size;have h3s:=h3.size;have h6l:=h6.lt;have hd:∀k,own G1 fb k→¬(k=XB∨ev.ownBlock=some k):=fun k hk hc=>hc.elim (fun e=>h7 (e▸hk)) (fun e=>h9 k e hk)
 have zW:∀k,G1 k→grow G w0 w' k:=fun k hk=>(h2 k hk).imp id fun hk=>⟨hk.1,U⟩
 have h3':ae (own G fb) w0 w':=⟨t.os.trans h3.os,t.tape.trans h3.tape,t.output.trans h3.output,U,fun k hk hn=>(t.block k U (fun hc=>by
  rcases hc with hc|hc
  ·exact hn (.inl (by rw[hc];exact h5))
  ·have:=(h8.lt k hc).1;omega)).trans (h3.block k hk hn)⟩
 refine⟨G1,⟨h1.st.beside t (fun k hk=>hd k (.inl hk)),t.blk h1.box (hd fb (.inr rfl)),h1.nb,FsG.moved zW h3' h4⟩,zW,h3',h4,h5,hb,h7,hr,fun g hg hc=>?_⟩
 rcases hf with e|⟨g',e,Ph⟩
 ·exact h9 g (by rw[←e];exact hg) hc
 ·rw[e] at hg
  have:=h1.fi g hc;cases hg;omega
end
structure GrI (KI:Nat) (σ:StL) (fr:List (List WrL)) (C:Nat→Bytes):Prop where
 st:cg KI σ fr C
 op:σ.open_=true
 map:fO σ
theorem GrI.alloc{KI:Nat}{σ:StL}{fr:List (List WrL)}{C:Nat→Bytes}(h:GrI KI σ fr C)(k:Nat)(hk:1≤k):
  (fK σ.ai k σ.n=none∧σ.alloc k=(σ,0,9))∨∃a,fK σ.ai k σ.n=some a∧σ.alloc k=((σ.bh a k true).1,(a:Int),0)∧ak σ.n≤a∧a+k≤σ.n∧GrI KI (σ.bh a k true).1 fr C∧(σ.bh a k true).1.n=σ.n:=by
 have jy:=AY h.st h.op h.map k hk;cases hf:fK σ.ai k σ.n with
 | none=>rw[hf] at jy;exact .inl ⟨rfl,jy⟩
 | some a =>
  rw[hf] at jy;obtain⟨a1,a2,a3,a4⟩:=jy;obtain⟨t0,t1,t2,t3,t4,t5⟩:=yF h.st h.op h.map a k true a2 a3;exact .inr ⟨a,rfl,a1,a2,a3,⟨t2,t3,t5⟩,fq t4⟩
theorem XG{σ:StL}{x:List (Nat×Nat)}{m n:Nat}(hn:n≠0)(hm:n≤m)(h:piece σ.ai σ.n n=none):σ.de x m n=(σ,9,x):=by
 obtain⟨m,rfl⟩:∃m',m=m'+1:=⟨m-1,U⟩;rw[StL.de,η hn,h]
theorem XH{σ:StL}{x:List (Nat×Nat)}{m n a k:Nat}(hn:n≠0)(hm:n≤m)(h:piece σ.ai σ.n n=some (a,k)):σ.de x m n=(σ.bh a k true).1.de (su x a k) (m-1) (n-k):=by
 obtain⟨m,rfl⟩:∃m',m=m'+1:=⟨m-1,U⟩;rw[StL.de,η hn,h];rfl
theorem XI{σ:StL}{x:List (Nat×Nat)}{m:Nat}:σ.de x m 0=(σ,0,x):=by
 cases m<;>simp[StL.de]
theorem Ob(b:Bytes)(n k:Nat)(h:fK b (k+1) n=none):piece b n (k+1)=piece b n k:=by rw[piece,h]
theorem tA(b:Bytes)(n k a:Nat)(h:fK b (k+1) n=some a):piece b n (k+1)=some (a,k+1):=by rw[piece,h]
end
section
open Go.RowKit
theorem GrS.start{w w1:World}{G0:Nat→Prop}{fb sb b:Nat}{φ:FsL}{K:Nat}{v:Value}{XB:Nat}{a0 a1 a2 av u:Value}{x:List (Nat×Nat)}(h:FsG w G0 fb sb b φ K v)(hX:Blk w XB 48 #[a0,a1,a2,av])(Wh:¬own G0 fb XB)(hf:ci (fun k=>¬own (fun k=>G0 k∨k=XB) fb k) w v φ.l)(q:Q w w1)(hr:w1.ownsRow w.heap.size 87 2 u x.length (ext x)):
  GrS w (w1.setCell ⟨XB,3,none⟩ u) (fun k=>G0 k∨k=XB) fb sb b φ K v XB a0 a1 a2 u x:=by
 have t:ae (fun k=>k=XB) w1 (w1.setCell ⟨XB,3,none⟩ u):=ae.setCell (a:=⟨XB,3,none⟩) (ae.refl (fun k=>k=XB) w1) (.inl rfl) _
 have ay:=hX.lt;have h2:∀k,G0 k→grow (fun k=>G0 k∨k=XB) w (w1.setCell ⟨XB,3,none⟩ u) k:=fun k hk=>.inl (.inl hk)
 have h3:ae (own (fun k=>G0 k∨k=XB) fb) w (w1.setCell ⟨XB,3,none⟩ u):=(ae.br q).trans (t.mono fun k hk=>.inl (.inr hk))
 have sJ:=h.keep q;refine⟨G0,⟨sJ.st.beside t (fun k hk e=>Wh (.inl (e▸hk))),t.blk sJ.box (fun e=>Wh (.inr e.symm)),h.nb,FsG.moved h2 h3 hf⟩,h2,h3,hf,.inr rfl,(hX.stays q).set 3 u,Wh,Ki hr t (fun g hg e=>?_),fun g hg hc=>?_⟩
 ·have:=(hr.lt g hg).1;omega
 ·have:=(hr.lt g hg).1
  have:=h.fi g hc;omega
theorem GrS.grown{w0 w w':World}{G:Nat→Prop}{fb sb b:Nat}{φ:FsL}{K:Nat}{v:Value}{XB:Nat}{a0 a1 a2 ev v':Value}{x x':List (Nat×Nat)}(h:GrS w0 w G fb sb b φ K v XB a0 a1 a2 ev x)(hr:w'.ownsRow w0.heap.size 87 2 v' x'.length (ext x'))(hg:w.grownBy w' ev.ownBlock)(ho:v'.ownBlock=ev.ownBlock∨∃g,v'.ownBlock=some g∧w.heap.size≤g):
  w'.cell? ⟨XB,3,none⟩=some ev∧w'.frozen? ⟨XB,3,none⟩=false∧GrS w0 (w'.setCell ⟨XB,3,none⟩ v') G fb sb b φ K v XB a0 a1 a2 v' x':=by
 have hb:=oI h.box h.row hg Z;obtain⟨_,_,_,d3,_,_,_,f3⟩:=hb.c4;refine⟨d3,f3,h.turned (w':=w'.setCell ⟨XB,3,none⟩ v') ?_ (hb.set 3 v') ?_ ho⟩
 ·exact((zQ hg).mono fun k hk=>.inr hk).setCell (a:=⟨XB,3,none⟩) (.inl (.inl rfl)) _
 ·refine Ki (own:=fun k=>k=XB) hr (ae.setCell (own:=fun k=>k=XB) (a:=⟨XB,3,none⟩) (ae.refl (fun k=>k=XB) w') (.inl rfl) _) (fun g jM e=>?_)
  obtain⟨cs,hc⟩:=oH hr g jM;subst e;rw[show _=_ from hb] at hc
  injection hc with h3;injection h3 with _ h3 _;exact absurd h3 Z
theorem zt(ys:List (Nat×Nat))(s t u:Nat):(ext (ys++[(s,t)])).set (ys.length*2+1) (.int .i64 (u:Nat))=ext (ys++[(s,u)]):=by
 rw[jP,abB _ _ (by rw[jO];omega),jO]
 have:ys.length*2+1-ys.length*2=1:=U;rw[this];simp[ext]
theorem GrS.longer{w0 w:World}{G:Nat→Prop}{fb sb b:Nat}{φ:FsL}{K:Nat}{v:Value}{XB:Nat}{a0 a1 a2:Value}{g c:Nat}{ys:List (Nat×Nat)}{s t:Nat}(h:GrS w0 w G fb sb b φ K v XB a0 a1 a2 (.slice (some ⟨g,0,none⟩) (ys++[(s,t)]).length c) (ys++[(s,t)]))(u:Nat):
  w.frozen? ⟨g,ys.length*2+1,none⟩=false∧GrS w0 (w.setCell ⟨g,ys.length*2+1,none⟩ (.int .i64 (u:Nat))) G fb sb b φ K v XB a0 a1 a2 (.slice (some ⟨g,0,none⟩) (ys++[(s,t)]).length c) (ys++[(s,u)]):=by
 have hr:=h.row;obtain⟨s1,s2⟩:=hr.stored (ys.length*2+1) (.int .i64 (u:Nat));rw[zt] at s1;have hb:Blk (w.setCell ⟨g,ys.length*2+1,none⟩ (.int .i64 (u:Nat))) XB 48 #[a0,a1,a2,.slice (some ⟨g,0,none⟩) (ys++[(s,t)]).length c]:=oI h.box hr s2 Z;have hl:(ys++[(s,u)]).length=(ys++[(s,t)]).length:=κ;exact⟨hr.frozenAt _,h.turned ((zQ s2).mono fun k hk=>.inr hk) hb (by rw[hl];exact s1) (.inl rfl)⟩
theorem sR(w:World)(G0:Nat→Prop)(fb sb b:Nat)(φ:FsL)(K:Nat)(v:Value)(XB:Nat)(a0 a1 a2 av:Value)(x:List (Nat×Nat))(n:Nat){KI:Nat}{fr:List (List WrL)}{C:Nat→Bytes}(h:FsG w G0 fb sb b φ K v)(hX:Blk w XB 48 #[a0,a1,a2,av])(Wh:¬own G0 fb XB)(ha:Sl w av x.length 2 (ext x))(hf:ci (fun k=>¬own (fun k=>G0 k∨k=XB) fb k) w v φ.l)
  (hI:GrI KI φ.st fr C) (gM:KI<18446744073709551616) (hn:n≤100) (hx:x.length≤16) (he:∀e∈x,1≤e.2∧0≤e.1∧e.1+e.2≤φ.st.n) (hK:K+40000≤1000000000000000000) :
  Calls prog 73 #[au fb,au XB,.int .i64 (n:Nat)] w fun e w'=>e=.returned (.int .i64 (φ.st.grow x n).2.1)∧∃ev,GrS w w' (fun k=>G0 k∨k=XB) fb sb b { φ with st:=(φ.st.grow x n).1 } (K+30000) v XB a0 a1 a2 ev (φ.st.grow x n).2.2:=by
 obtain⟨i0,hi,bY,bB,aW⟩:=info_parts zl;have iH:=hI.st.max;have bL:Calls prog 38 #[av] w fun e w1=>∃p c,e=.returned (.slice p x.length c)∧Q w w1∧Hid (GrS w (w1.setCell ⟨XB,3,none⟩ (.slice p x.length c)) (fun k=>G0 k∨k=XB) fb sb b φ K v XB a0 a1 a2 (.slice p x.length c) x):=(Xy av x.length (ext x) w ha (abo x) U).mono fun e w1 hh=>by
  obtain⟨v',r1,r2,r3⟩:=hh;obtain⟨p,c,e1,_⟩:=aY r2;subst e1;exact⟨p,c,r1,r3,Hd (GrS.start h hX Wh hf r3 r2)⟩
 obtain⟨ap,am,ac,rfl⟩:∃p m c,av=.slice p m c:=by obtain⟨_,p,c,rfl,_⟩:=ha;exact⟨p,_,c,rfl⟩
 obtain⟨d0,d1,d2,d3,f0,f1,f2,f3⟩:=hX.c4;have Ef:∀w1,Q w w1→w1.frozen? ⟨XB,3,none⟩=false:=fun w1 q=>(hX.stays q).frozen 3
 have p8:=Hd bL;have HFZ:=Hd Ef;have HI:=Hd hI;have HE:=Hd he;clear bL Ef h hX Wh ha hf hI he f0 f1 f2 f3 d0 d1 d2;obtain⟨σ,hσ⟩:∃σ,σ=φ.st:=⟨_,rfl⟩;go_enter func73,ntmps73;go_wp2_with fail;refine p8.out.mono ?_;rintro e w1 ⟨p,c,rfl,q1,H1⟩;have f3:=HFZ.out w1 q1;replace d3:=aj q1 d3;clear q1 p8 HFZ;go_upto_region 2 with fail;generalize w1.setCell ⟨XB,3,none⟩ (.slice p x.length c)=w2 at *;clear d3 f3;clear hσ σ;go_loopw [2] (fun nv wr=>∃(m:Nat) (σ:StL) (y:List (Nat×Nat)) (ft K':Nat) (p:Option Addr) (c:Nat),nv=.int .i64 (m:Nat)∧m≤n∧Hid (m≤ft∧GrI KI σ fr C∧σ.n=φ.st.n∧(∀e∈y,1≤e.2∧0≤e.1∧e.1+e.2≤φ.st.n)∧φ.st.de x n n=σ.de y ft m∧y.length≤x.length+(n-m)∧K'≤K+210*(n-m))∧Hid (GrS w wr (fun k=>G0 k∨k=XB) fb sb b { φ with st:=σ } K' v XB a0 a1 a2 (.slice p y.length c) y)) (fun nv _=>(intOf nv).toNat)
 case atStart=>exact⟨n,φ.st,x,n,K,p,c,rfl,Ω _,Hd ⟨Ω _,HI.out,rfl,HE.out,rfl,U,U⟩,H1⟩
 case round =>
  obtain⟨m,σ,y,ft,K',p',c',rfl,hm,HS,HG⟩:=hrel;by_cases JH:m=0
  ·subst JH
   obtain⟨s1,s2,s3,s4,s5,s6,s7⟩:=HS.out;rw[XI] at s5;obtain⟨_,_,_,c3,_⟩:=HG.out.box.c4;have hK2:K'≤K+30000:=U;have dK:∀wz K2,K2≤K+30000→GrS w wz (fun k=>G0 k∨k=XB) fb sb b { φ with st:=σ } K2 v XB a0 a1 a2 (.slice p' y.length c') y→GrS w wz (fun k=>G0 k∨k=XB) fb sb b { φ with st:=σ } (K+30000) v XB a0 a1 a2 (.slice p' y.length c') y:=fun wz K2 kW hz=>by
    obtain⟨G1,g1,g2,g3⟩:=hz;exact⟨G1,⟨g1.st.mono (fun _ x=>x) g1.st.lt kW,g1.box,g1.nb,g1.files⟩,g2,g3⟩
   have HZ:=Hd (dK wr K' hK2 HG.out);have oW:(φ.st.grow x n)=if 16<y.length then(σ,9,y) else(σ,0,y):=by unfold StL.grow;rw[s5,η κ]
   have TP:=Hd oW;clear s1 s2 s3 s4 s5 s6 s7 HS HG dK oW;by_cases JC:16<y.length
   ·have g1:(16:Int)<(y.length:Int):=U
    have H16:=Hd JC;clear JC;go_wp2_with fail;go_ret;rw[TP.out,Φ H16.out];exact⟨rfl,_,HZ.out⟩
   ·have g1:¬(16:Int)<(y.length:Int):=U
    have H16:=Hd JC;clear JC;go_wp2_with fail;go_ret;rw[TP.out,η H16.out];exact⟨rfl,_,HZ.out⟩
  ·have zx:(0:Int)<(m:Int):=U
   obtain⟨s1,s2,s3,s4,s5,s6,s7⟩:=HS.out;have kr:iL σ:=s2.st.num gM;have Bp:=HG.out.alloc (m:Nat) kr U;obtain⟨b0,_⟩:=HG.out.k.cells;have jy:∀(k:Nat) (K2:Nat) (X:World),K2≤K+39000→GrS w X (fun k=>G0 k∨k=XB) fb sb b { φ with st:=σ } K2 v XB a0 a1 a2 (.slice p' y.length c') y→Calls prog 140 #[au sb,.int .i64 (k:Nat)] X fun e w'=>e=.returned (.tuple #[.int .i64 (σ.alloc k).2.1,.int .i64 (σ.alloc k).2.2])∧GrS w w' (fun k=>G0 k∨k=XB) fb sb b { φ with st:=(σ.alloc k).1 } (K2+2) v XB a0 a1 a2 (.slice p' y.length c') y:=fun k K2 X kW hX=>hX.alloc (k:Nat) kr U
   have mQ:=fun (k:Nat) (hk:1≤k)=>s2.alloc k hk
   have VY:=Hd Bp;have OU:=Hd jy;have HCS:=Hd mQ;clear s1 s2 s3 s4 s5 s6 s7 Bp jy mQ kr;go_upto_region 4 with fail;go_wp2_with fail;refine VY.out.mono ?_;rintro e w4 ⟨rfl,h4⟩;have H4:=Hd h4;clear h4 VY b0;go_wp2_with fail;go_loopw [7,8,9] (fun kv av ev wq=>∃(k K2:Nat),kv=.int .i64 (k:Nat)∧1≤k∧k≤m∧av=.int .i64 (σ.alloc k).2.1∧ev=.int .i64 (σ.alloc k).2.2∧Hid (piece σ.ai σ.n m=piece σ.ai σ.n k∧K2≤K'+2*(m-k+1))∧Hid (GrS w wq (fun k=>G0 k∨k=XB) fb sb b { φ with st:=(σ.alloc k).1 } K2 v XB a0 a1 a2 (.slice p' y.length c') y)) (fun kv _ _ _=>(intOf kv).toNat)
   case atStart=>exact⟨m,K'+2,rfl,U,Ω _,rfl,rfl,Hd ⟨rfl,U⟩,H4⟩
   case round =>
    obtain⟨k,K2,rfl,Bv,LQ,rfl,rfl,HP,HQ⟩:=hrel;rcases HCS.out k Bv with ⟨hf,ha⟩|⟨a,hf,ha,q1,q2,q3,q4⟩
    ·rw[ha] at HQ ⊢
     simp only[] at HQ ⊢;obtain⟨c0,_⟩:=HQ.out.k.cells;obtain⟨t1,t2⟩:=HP.out;obtain⟨s1,s2,s3,s4,s5,s6,s7⟩:=HS.out;by_cases kW:k=1
     ·subst kW
      have gK:piece σ.ai σ.n m=none:=by rw[t1,Ob _ _ 0 hf,piece]
      have oW:φ.st.grow x n=(σ,9,y):=by unfold StL.grow;rw[s5,XG JH s1 gK,Φ κ]
      have hz:GrS w wr (fun k=>G0 k∨k=XB) fb sb b { φ with st:=σ } (K+30000) v XB a0 a1 a2 (.slice p' y.length c') y:=by
       obtain⟨G1,g1,g2,g3⟩:=HQ.out;exact⟨G1,⟨g1.st.mono (fun _ x=>x) g1.st.lt U,g1.box,g1.nb,g1.files⟩,g2,g3⟩
      have HZ:=Hd hz;have TP:=Hd oW;clear hz oW gK t1 t2 s1 s2 s3 s4 s5 s6 s7 HQ HG HS HP ha hf;go_wp2_with fail;go_ret;rw[TP.out];exact⟨rfl,_,HZ.out⟩
     ·have hkg:(1:Int)<(k:Int):=U
      have ew:IntKind.i64.wrap ((k:Int)-1)=((k-1:Nat):Int):=by rw[IntWalk.i64_in _ U];omega
      have jy:=OU.out (k-1) K2 wr U HQ.out;have iq:piece σ.ai σ.n m=piece σ.ai σ.n (k-1):=by
       obtain⟨j,rfl⟩:∃j,k=j+1:=⟨k-1,U⟩;rw[t1,Ob _ _ j hf,abk]
      have HA:=Hd jy;have kX:Hid (piece σ.ai σ.n m=piece σ.ai σ.n (k-1)∧K2+2≤K'+2*(m-(k-1)+1)):=Hd ⟨iq,U⟩;clear jy iq t1 t2 s1 s2 s3 s4 s5 s6 s7 HQ HG HS HP ha hf;go_wp2_with fail;refine HA.out.mono ?_;rintro e w5 ⟨rfl,h5⟩;have H5:=Hd h5;clear h5;go_wp2_with fail;go_roundw;case rel=>exact⟨k-1,K2+2,rfl,U,U,rfl,rfl,kX,H5⟩
      case measure=>simp[intOf];omega
    ·rw[ha] at HQ ⊢
     simp only[] at HQ ⊢;obtain⟨c0,_⟩:=HQ.out.k.cells;obtain⟨d0,d1,d2,d3,_,_,_,g3⟩:=HQ.out.box.c4;obtain⟨t1,t2⟩:=HP.out;obtain⟨s1,s2,s3,s4,s5,s6,s7⟩:=HS.out;have gK:piece σ.ai σ.n m=some (a,k):=by
      obtain⟨j,rfl⟩:∃j,k=j+1:=⟨k-1,U⟩;rw[t1,tA _ _ j a hf]
     have V3:φ.st.de x n n=(σ.bh a k true).1.de (su y a k) (ft-1) (m-k):=by rw[s5,XH JH s1 gK]
     have xV:∀e∈su y a k,1≤e.2∧0≤e.1∧e.1+e.2≤φ.st.n:=QK s4 Bv (L0 _) U;have aiQ:(su y a k).length≤y.length+1:=by
      unfold su;split
      ·split
       ·rw[Δ,acF,Θ,Nm];omega
       ·rw[Δ];simp
      ·simp
     have nM:Hid (m-k≤ft-1∧GrI KI (σ.bh a k true).1 fr C∧(σ.bh a k true).1.n=φ.st.n∧(∀e∈su y a k,1≤e.2∧0≤e.1∧e.1+e.2≤φ.st.n)∧φ.st.de x n n=(σ.bh a k true).1.de (su y a k) (ft-1) (m-k)∧(su y a k).length≤x.length+(n-(m-k))∧K2≤K+210*(n-(m-k))):=Hd ⟨U,q3,by rw[q4,s3],xV,V3,U,U⟩
     have ew:IntKind.i64.wrap ((m:Int)-(k:Int))=((m-k:Nat):Int):=by rw[IntWalk.i64_in _ U];omega
     have Ib:y.length≤200:=U;have ha5:a+k≤5000:=U;have vU:=nM;have HE4:=Hd s4;clear t1 t2 s1 s2 s3 s4 s5 s6 s7 gK V3 xV aiQ nM HG HS HP ha hf q1 q2 q3 q4;generalize (σ.bh a k true).1=σ' at *;by_cases hy:y=[]
     ·subst hy
      have hEn:su [] a k=[(a,k)]:=rfl;rw[hEn] at vU;have cO:∀u∈#[Value.int .i64 (a:Nat),Value.int .i64 (k:Nat)].toList,u.oneCell'=true:=by intro u hu;simp at hu;rcases hu with rfl|rfl<;>rfl
      have eH:w.heap.size≤wr.heap.size:=by
       obtain⟨_,_,_,t⟩:=HQ.out.k;exact t.size
      have e1:IntKind.i64.wrap ((([]:List (Nat×Nat)).length:Int)-1) = -1:=Z;have qJ:=Hd cO;clear cO hEn c0 d0 d1 d2;have bN:(([]:List (Nat×Nat)).length+1)*16≤140737488355328:=Z;go_wp2_with fail;go_quiet (fail);have eG:=HQ.out.q (Q.drewN wr nq);replace d3:=aj (Q.drewN wr nq) d3;have eH:w.heap.size≤(wr.drewN nq).heap.size:=LS eH (Q.drewN wr nq).size;generalize wr.drewN nq=wq at *;have lu:=Hd eG.row;have bJ:=Hd eG;clear eG HQ g3;go_wp2_with (at_builtin;refine bG wq ρ _ _ 46 ρ w.heap.size 87 _ i0 (.agg #[.int .i64 0,.int .i64 0]) 2 16 underlying46 hi bY bB aW rfl Z Z _ _ _ ρ lu.out #[.int .i64 (a:Nat),.int .i64 (k:Nat)] ρ rfl qJ.out bN eH ?_)
      intro g11 jI w11 iB gu lQ jR iC;obtain⟨r3,f3,hz⟩:=GrS.grown (x':=[(a,k)]) bJ.out iB gu (lQ.elim (fun e=>.inl e.symm) (fun e=>.inr ⟨g11,rfl,aeJ e⟩))
      have HZ:=Hd hz;clear hz iB gu lQ jR iC bJ lu;go_wp2_with fail;go_roundw;case rel=>exact⟨m-k,σ',[(a,k)],ft-1,K2,some ⟨g11,0,none⟩,jI,rfl,U,vU,HZ.out⟩
      case measure=>simp[intOf];omega
     ·obtain⟨ys,⟨s,t⟩,rfl⟩:∃ys e,y=ys++[e]:=⟨y.dropLast,y.getLast hy,(acY hy).symm⟩
      have dP:=HQ.out.row;obtain⟨g,rfl⟩:∃g,p'=some ⟨g,0,none⟩:=by
       rcases dP.2 with ⟨e,e2⟩|⟨g,cap,cur,e,_⟩
       ·simp at e2
       ·injection e with e;exact⟨g,e⟩
      have hl:(ys++[(s,t)]).length=ys.length+1:=κ;obtain⟨x0,x1⟩:wr.cell? ⟨g,ys.length*2,none⟩=some (.int .i64 s)∧wr.cell? ⟨g,ys.length*2+1,none⟩=some (.int .i64 t):=by
       rw[dP.cellAt _ U,dP.cellAt _ U];have:=FZ (ys++[(s,t)]) ys.length U;rw[UX 2] at this;simpa using this
      have aC:=HE4.out (s,t) κ;simp only at aC;have xQ:φ.st.n≤4096:=iH;have aeE:su (ys++[(s,t)]) a k=if s+t=a then ys++[(s,t+k)] else ys++[(s,t)]++[(a,k)]:=by
       unfold su;rw[List.getLast?_concat];simp
      rw[aeE] at vU;generalize hL:ys.length=L at *;have ZT:L≤200:=U;have e1:IntKind.i64.wrap ((((L+1:Nat):Nat):Int)-1)=(L:Int):=by rw[IntWalk.i64_in _ U];omega
      have e2:(0:Int)≤(L:Int):=U;have e3:(L:Int)<((L+1:Nat):Int):=U;have e4:IntKind.i64.wrap ((s:Int)+(t:Int))=((s+t:Nat):Int):=by rw[IntWalk.i64_in _ U];omega
      have aat:s+t≤4096:=U;rw[hl] at d3 HQ;clear dP aC aeE c0 d0 d1 d2 hy HE4;by_cases hsa:s+t=a
      ·have e5:(((s+t:Nat):Int)==(a:Int))=true:=by rw[MY];omega
       rw[Φ hsa] at vU;clear hsa;have e6:IntKind.i64.wrap ((t:Int)+(k:Int))=((t+k:Nat):Int):=by rw[IntWalk.i64_in _ U];omega
       go_wp2_with fail;go_quiet (fail);have eG:=HQ.out.q (Q.drewN wr nq);replace d3:=aj (Q.drewN wr nq) d3;replace x1:=aj (Q.drewN wr nq) x1;clear x0;generalize wr.drewN nq=wq at *;rw[←hl] at eG;obtain⟨f3,hz⟩:=eG.longer (t+k);rw[hL] at f3 hz;have HZ:=Hd hz;clear hz eG HQ g3;have nL:(ys++[(s,t+k)]).length=L+1:=by rw[Δ,hL];rfl
       go_wp2_with fail;go_roundw;case rel=>exact⟨m-k,σ',ys++[(s,t+k)],ft-1,K2,some ⟨g,0,none⟩,c',rfl,U,vU,by rw[nL,←hl];exact HZ⟩
       case measure=>simp[intOf];omega
      ·have e5:(((s+t:Nat):Int)==(a:Int))=false:=by rw[Γ];omega
       rw[η hsa] at vU;clear hsa;have cO:∀u∈#[Value.int .i64 (a:Nat),Value.int .i64 (k:Nat)].toList,u.oneCell'=true:=by intro u hu;simp at hu;rcases hu with rfl|rfl<;>rfl
       have eH:w.heap.size≤wr.heap.size:=by
        obtain⟨_,_,_,t⟩:=HQ.out.k;exact t.size
       have qJ:=Hd cO;clear cO;have bN:(L+1+1)*16≤140737488355328:=U;go_wp2_with fail;go_quiet (fail);have eG:=HQ.out.q (Q.drewN wr nq);replace d3:=aj (Q.drewN wr nq) d3;have eH:w.heap.size≤(wr.drewN nq).heap.size:=LS eH (Q.drewN wr nq).size;clear x0 x1;generalize wr.drewN nq=wq at *;have zU:=eG.row;rw[hl] at zU;have lu:=Hd zU;have bJ:=Hd eG;clear eG HQ g3 zU;go_wp2_with (at_builtin;refine bG wq ρ _ _ 46 ρ w.heap.size 87 _ i0 (.agg #[.int .i64 0,.int .i64 0]) 2 16 underlying46 hi bY bB aW rfl Z Z _ _ _ ρ lu.out #[.int .i64 (a:Nat),.int .i64 (k:Nat)] ρ rfl qJ.out bN eH ?_)
       intro g11 jI w11 iB gu lQ jR iC;have nL:(ys++[(s,t)]++[(a,k)]).length=L+1+1:=by rw[Δ,hl];rfl
       obtain⟨r3,f3,hz⟩:=GrS.grown (v':=.slice (some ⟨g11,0,none⟩) (L+1+1) jI) (x':=ys++[(s,t)]++[(a,k)]) bJ.out (by rw[nL,jP];exact iB) gu (lQ.elim (fun e=>.inl e.symm) (fun e=>.inr ⟨g11,rfl,aeJ e⟩))
       have HZ:=Hd hz;clear hz iB gu lQ jR iC bJ lu;go_wp2_with fail;go_roundw;case rel=>exact⟨m-k,σ',ys++[(s,t)]++[(a,k)],ft-1,K2,some ⟨g11,0,none⟩,jI,rfl,U,vU,by rw[nL];exact HZ⟩
       case measure=>simp[intOf];omega
end
section
theorem XJ(bs:List Nat):∀(d:Bytes) (k:Nat) (hk:k<bs.length),(dU bs d).take (k+1)=(dU bs d).take k++[(bs[k],xq ((d.drop (256*k)).take 256))]:=by
 induction bs with
 | nil=>intro d k hk;simp at hk
 | cons b bs ih =>
  intro d k hk;cases k with
  | zero=>rfl
  | succ k =>
   have:=ih (d.drop 256) k (by simpa using hk)
   rw[N6,show 256+256*k=256*(k+1) by omega] at this
   rw[dU,acP,this,acP];rfl
section
variable {KI:Nat} {φ:FsL} {fr:List (List WrL)} {C:Nat→Bytes}
structure kq (KI:Nat) (n:Nat) (σ:StL) (fr:List (List WrL)) (C:Nat→Bytes) (bs:List Nat) (d:Bytes):Prop where
 st:cg KI σ fr C
 op:σ.open_=true
 few:σ.tx.length≤2
 num:σ.n=n
 len:bs.length≤26
 bits:d.length≤256*bs.length
 ok:∀b∈bs,ak n≤b∧b<n∧bit σ.ai b=true
theorem kq.run{n:Nat}{σ:StL}{bs:List Nat}{d:Bytes}(h:kq KI n σ fr C bs d)(k:Nat):(σ.writes ((dU bs d).take k)).2=0∧cg KI (σ.writes ((dU bs d).take k)).1 fr C∧(σ.writes ((dU bs d).take k)).1.open_=true∧(σ.writes ((dU bs d).take k)).1.ai=σ.ai∧(σ.writes ((dU bs d).take k)).1.n=n∧(σ.writes ((dU bs d).take k)).1.tx.length≤28:=by
 have hl:((dU bs d).take k).length≤26:=LS (List.length_take_le' _ _) (by rw[Cb];exact h.len)
 have hf:=h.few;obtain⟨a1,a2,a3,a4,a5,a6,_⟩:=tC ((dU bs d).take k) h.st h.op U (fun w hw=>by
  obtain⟨x1,x2⟩:=zh (P3 hw);have x3:=h.ok _ x1;rw[h.num];exact⟨x3.1,x3.2.1,x3.2.2,x2⟩)
 exact⟨a1,a2,a3,a4,(fq a5).trans h.num,U⟩
theorem kq.step{n:Nat}{σ:StL}{bs:List Nat}{d:Bytes}(h:kq KI n σ fr C bs d)(hK:KI<18446744073709551616)(k:Nat)(hk:k<bs.length):
  iL (σ.writes ((dU bs d).take k)).1∧((σ.writes ((dU bs d).take k)).1.write (bs[k]:Nat) (xq ((d.drop (256*k)).take 256))).2=0∧(σ.writes ((dU bs d).take (k+1))).1=((σ.writes ((dU bs d).take k)).1.write (bs[k]:Nat) (xq ((d.drop (256*k)).take 256))).1∧bs[k]<4096:=by
 obtain⟨a1,a2,a3,a4,a5,a6⟩:=h.run k;obtain⟨x1,x2,x3⟩:=h.ok _ (LO hk);have iH:=h.st.max;have hn:=h.num;obtain⟨b1,_⟩:=J2 a2 a3 U bs[k] (xq ((d.drop (256*k)).take 256)) (ED _ (by rw[L4];omega)) (by rw[a5];exact x1) (by rw[a5];exact x2) (by rw[a4];exact x3)
 have hw:((σ.writes ((dU bs d).take k)).1.write (bs[k]:Nat) (xq ((d.drop (256*k)).take 256))).2=0:=by rw[b1]
 refine⟨a2.num hK,hw,?_,U⟩;rw[XJ _ _ _ hk,Fg _ _ _ a1,Lg _ _ _ hw]
theorem bz.grI(h:bz KI φ fr C):GrI KI φ.st.begin.1 fr C:=by
 obtain⟨ht,h0,h1⟩:=h.start;exact⟨ht.st,ht.op,by unfold fO;rw[h0];simp⟩
theorem bz.appS(h:bz KI φ fr C)(f:ax)(hf:f∈φ.l)(d tl:Bytes)(hd:d.length≤6000)(ht:tl.length=f.size%256){g:StL×Int×List (Nat×Nat)}{new:List Nat}(hg:mz KI φ fr C f d g new):kq KI φ.st.n g.1 fr C ((aT g.2.2).drop (f.size / 256)) (tl++d)∧eE KI (g.1.writes (dU ((aT g.2.2).drop (f.size / 256)) (tl++d))).1 fr C:=by
 have hl:((aT g.2.2).drop (f.size / 256)).length=(f.size+d.length+255) / 256-f.size / 256:=by rw[hg.run,L5,hg.len]
 have hA:kq KI φ.st.n g.1 fr C ((aT g.2.2).drop (f.size / 256)) (tl++d):=⟨hg.tx.st,hg.tx.op,qY hg.tx.st hg.map,fq hg.tx.j,U,by rw[hl,Δ,ht];omega,fun b hb=>by
  have:=hg.all b (by rw[←hg.run];exact XS hb)
  exact⟨U,this.2⟩⟩
 obtain⟨a1,a2,a3,a4,a5,a6⟩:=hA.run ((dU ((aT g.2.2).drop (f.size / 256)) (tl++d)).length);rw[M1] at a1 a2 a3 a4 a5 a6;refine⟨hA,a2,a3,U,by rw[a5];exact h.good.room,fun i hi=>?_⟩
 rw[a4,a5,hg.bits];split
 ·rfl
 ·exact h.low _ U
end
end
end Go.Proofs.YtbkahhebmpehnaaGreatDoor
