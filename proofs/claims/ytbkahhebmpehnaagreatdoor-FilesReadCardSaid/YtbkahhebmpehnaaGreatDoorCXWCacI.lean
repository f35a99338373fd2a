/- Joined: WCacI to WJrnD -/
import Derived.Test.YtbkahhebmpehnaaGreatDoorCXWCacE
import Derived.Test.YtbkahhebmpehnaaGreatDoorCXBitA
import Derived.Test.YtbkahhebmpehnaaGreatDoorCXWBlkB
set_option linter.all false
set_option maxRecDepth 100000
set_option maxHeartbeats 8000000
namespace Go.Proofs.YtbkahhebmpehnaaGreatDoor
open Go.Proofs.Tryz
section
open Go.RowKit
theorem ae.more{F G:Nat→Prop}{A B C:World}(h:ae F A B)(t:ae G B C)(hG:∀k,G k→F k∨A.heap.size≤k):ae F A C :=
 ⟨t.os.trans h.os,t.tape.trans h.tape,t.output.trans h.output,LS h.size t.size,fun k h1 h2=>(t.block k (Ψ h1 h.size) (fun hg=>(hG k hg).elim h2 (fun h3=>U))).trans (h.block k h1 h2)⟩
def nH(m:bU)(left:List Nat):bU:=m.map fun x=>(x.1,if left.contains x.1 then x.2 else { x.2 with cy:=false })
theorem Dh(m:bU)(left:List Nat):(nH m left).map (·.1)=m.map (·.1):=by simp[nH,Rr,Wb]
theorem UH(m:bU)(left:List Nat):(nH m left).map (·.2.p)=m.map (·.2.p):=by
 unfold nH;rw[Rr];refine PC (fun x _=>?_)
 simp only[Function.comp];split<;>rfl
theorem UJ{α:Type}{k:Nat}{v u:α}{m:List (Nat×α)}(hn:(m.map (·.1)).Nodup)(hg:bC k m=some u):cK k v m=m.map fun x=>if x.1=k then(k,v) else x:=by
 induction m with
 | nil=>cases hg
 | cons y m ih =>
  simp only[No,Sa] at hn;unfold bC at hg;unfold cK;by_cases hy:y.1=k
  ·rw[Φ hy,No,Φ hy]
   congr 1;conv=>lhs;rw[←List.map_id m]
   refine PC (fun x hx=>?_)
   rw[η]
   ·rfl
   ·intro e
    exact hn.1 (MD.2 ⟨x,hx,by rw[e,hy]⟩)
  ·rw[η hy] at hg ⊢
   rw[No,η hy,ih hn.2 hg]
theorem UK{m:bU}{k:Nat}{kk:gq}{left left':List Nat}(hn:(m.map (·.1)).Nodup)(hg:bC k m=some kk)(hp:left.Perm (k::left'))(hl:left.Nodup):
  bC k (nH m left)=some kk∧cK k { kk with cy:=false } (nH m left)=nH m left':=by
 have oq:k∈left:=hp.mem_iff.2 (Mu ..);have lU:(k::left').Nodup:=hp.nodup_iff.1 hl;have Yv:k∉left':=(Sa.1 lU).1;have h1:bC k (nH m left)=some kk:=by
  refine kL (by rw[Dh];exact hn) (MD.2 ⟨(k,kk),gH hg,?_⟩)
  simp[oq]
 refine⟨h1,?_⟩;rw[UJ (by rw[Dh];exact hn) h1]
 unfold nH;rw[Rr];refine PC (fun x hx=>?_)
 simp only[Function.comp];by_cases uO:x.1=k
 ·have sH:x=(k,kk):=by
   have:=kL hn (k:=x.1) (v:=x.2) hx;rw[uO,hg] at this;injection this with this;rw[←uO,this]
  subst sH;simp[Yv]
 ·have:left.contains x.1=left'.contains x.1:=by
   have h1:x.1∈left↔x.1∈left':=by
    rw[hp.mem_iff,MA];exact⟨fun h=>h.resolve_left uO,.inr⟩
   by_cases hm:x.1∈left'
   ·simp[hm,h1.2 hm]
   ·have lD:x.1∉left:=fun h=>hm (h1.1 h)
    simp[hm,lD]
  simp only[uO,ON,this]
theorem WJ{w:World}{b r:Nat}{m:bU}(left:List Nat)(h:∀x∈m,x.1∈left):nH m left=m:=by
 unfold nH;conv=>rhs;rw[←List.map_id m]
 refine PC (fun x hx=>?_)
 simp[h x hx]
theorem Nt(w:World)(F:Nat→Prop)(cb p most clock:Nat)(ms:Int)(mb:Nat)(m:bU)(h:co w F cb p most clock ms mb m)(hk:(m.map (·.1)).Nodup)(hp:(m.map (·.2.p)).Nodup):
  Calls prog 136 #[au cb] w fun e w'=>e=.returned (.tuple #[])∧co w' F cb p most clock ms mb (m.map fun x=>(x.1,{ x.2 with cy:=false }))∧ae F w w':=by
 have c4:=h.box.cell 4 (.map (some mb)) rfl;obtain⟨o,LW,Co⟩:=cX.made (P:=prog) h.map 256 3 257 underlying256;have ji:Q w (w.alloc o):=Q.alloc _ _;have h0:=h.keep ji;have aC:nH m ((mapOf m).map (·.1))=m:=WJ (w:=w) (b:=0) (r:=0) _ (fun x hx=>MD.2 ⟨(x.1,au x.2.p),MD.2 ⟨x,hx,rfl⟩,rfl⟩)
 rw[←aC] at h0;have LX:=Hd Co;have H0:=Hd h0;have HH:=Hd h;have mF:=Hd ji;have HK:=Hd hk;have HP:=Hd hp;clear Co h0 h ji aC hk hp;go_enter func136,ntmps136;go_wp2_with fail;clear LW c4;go_loopw [3] (fun _ wr=>∃left,Hid (cX wr mb w.heap.size (mapOf m) left)∧Hid (co wr F cb p most clock ms mb (nH m left))∧Hid (ae F w wr)) (fun _ wr=>wr.rangeLeft mb w.heap.size)
 case atStart=>exact⟨_,LX,H0,Hd (ae.br mF.out)⟩
 case round =>
  obtain⟨left,HR,HC,HT⟩:=hrel;rcases cX.next (P:=prog) HR.out with ⟨rfl,gU⟩|⟨k,v,left',w',GU,qH,gU,qA,hg,hz,GX⟩
  ·have dK:=HC.out
   rw[show nH m []=m.map (fun x=>(x.1,{ x.2 with cy:=false })) from by simp[nH]] at dK
   have HF:=Hd dK;clear dK;go_wp2_with fail;go_end0;exact⟨rfl,HF.out,HT.out⟩
  ·obtain⟨x,hx,sH⟩:=MD.1 GU
   obtain⟨kx,kk⟩:=x;simp only[QR] at sH;obtain⟨rfl,rfl⟩:=sH;have Jy:=kL HK.out hx;obtain⟨s1,s2⟩:=UK HK.out Jy qH HR.out.nodup.1;have tr:ae (fun j=>j=w.heap.size) wr w':=co.eK hg
   have uZ:∀j,F j→j≠w.heap.size:=fun j hj e=>by have:=HH.out.lt j hj;omega
   have h1:=HC.out.beside tr uZ;have mP:=(h1.kept _ (gH s1)).1;have hkF:=(h1.kept _ (gH s1)).2;have d1:=mP.cell 1 (.bool kk.cy) rfl;have f1:=mP.frozen 1;simp only[] at d1 f1 hkF;have t2:ae (fun j=>j=kk.p) w' (w'.setCell ⟨kk.p,1,none⟩ (.bool false)):=ae.setCell (a:=⟨kk.p,1,none⟩) (ae.refl (fun j=>j=kk.p) w') (.inl rfl) _
   have h2:=h1.j8 (by rw[Dh];exact HK.out) (by rw[UH];exact HP.out) s1 (k':={ kk with cy:=false }) rfl t2 (mP.set 1 (.bool false))
   rw[s2] at h2;have hrF:kk.p≠mb∧kk.p≠w.heap.size:=⟨(h1.apart.2 _ (gH s1)).2,uZ _ hkF⟩;have pW:cX (w'.setCell ⟨kk.p,1,none⟩ (.bool false)) mb w.heap.size (mapOf m) left':=qA.same (t2.block _ qA.map.lt hrF.1.symm) (by
    obtain⟨since,seen,c0,hit⟩:=qA.iter;exact t2.block _ (aJ hit) hrF.2.symm)
   have zG:ae F w (w'.setCell ⟨kk.p,1,none⟩ (.bool false)):=(HT.out.more tr (fun j hj=>.inr (aeD hj.symm))).trans (t2.mono (fun j hj=>by subst hj;exact hkF))
   have fT:(w'.setCell ⟨kk.p,1,none⟩ (.bool false)).rangeLeft mb w.heap.size<wr.rangeLeft mb w.heap.size:=by rw[pW.len,HR.out.len,qH.length_eq];simp
   have H2:=Hd h2;have Ct:=Hd pW;have fG:=Hd zG;have HL:=Hd fT;clear h2 pW zG fT h1 mP hkF t2 tr hg hz qA GU qH s1 s2 hx Jy hrF;go_wp2_with fail;go_roundw;case rel=>exact⟨left',Ct,H2,fG⟩
   case measure=>exact HL.out
def l7(m:bU)(left:List Nat):bU:=m.filter fun x => !x.2.cy||left.contains x.1
theorem Gf(m:bU)(left:List Nat):(l7 m left).Sublist m:=abN
theorem WK{m:bU}{k:Nat}{kk:gq}{left left':List Nat}(hn:(m.map (·.1)).Nodup)(hg:bC k m=some kk)(hp:left.Perm (k::left'))(hl:left.Nodup):
  bC k (l7 m left)=some kk∧k∉left'∧(kk.cy=true→kN k (l7 m left)=l7 m left')∧(kk.cy=false→l7 m left=l7 m left'):=by
 have oq:k∈left:=hp.mem_iff.2 (Mu ..);have lU:(k::left').Nodup:=hp.nodup_iff.1 hl;have Yv:k∉left':=(Sa.1 lU).1;have sI:((l7 m left).map (·.1)).Nodup:=((Gf m left).map _).nodup hn
 have eF:∀x∈m,x.1≠k→(left.contains x.1=left'.contains x.1):=fun x hx uO=>by
  have h1:x.1∈left↔x.1∈left':=by
   rw[hp.mem_iff,MA];exact⟨fun h=>h.resolve_left uO,.inr⟩
  by_cases hm:x.1∈left'
  ·simp[hm,h1.2 hm]
  ·have lD:x.1∉left:=fun h=>hm (h1.1 h)
   simp[hm,lD]
 have ac4:∀x∈m,x.1=k→x=(k,kk):=fun x hx uO=>by
  have:=kL hn (k:=x.1) (v:=x.2) hx;rw[uO,hg] at this;injection this with this;rw[←uO,this]
 refine⟨kL sI (PF.2 ⟨gH hg,by simp[oq]⟩),Yv,fun hd=>?_,fun hd=>?_⟩
 ·rw[Ip k _ sI]
  unfold l7;rw[List.filter_filter];refine List.filter_congr (fun x hx=>?_)
  by_cases uO:x.1=k
  ·rw[ac4 x hx uO]
   simp[hd,Yv]
  ·have aic:(x.1 != k)=true:=by simpa using uO
   rw[aic,acd,eF x hx uO]
 ·unfold l7
  refine List.filter_congr (fun x hx=>?_)
  by_cases uO:x.1=k
  ·rw[ac4 x hx uO]
   simp[hd]
  ·rw[eF x hx uO]
theorem ud{m:bU}(left:List Nat)(h:∀x∈m,x.1∈left):l7 m left=m:=by
 unfold l7;exact acS.2 (fun x hx=>by simp[h x hx])
theorem pZ(w:World)(k:Nat)(kk:gq)(h:Blk w kk.p 263 (mK kk)):
  Calls prog 256 #[dX k,au kk.p] w fun e w'=>e=.returned (.bool kk.cy)∧w=w':=by
 have d1:=h.cell 1 (.bool kk.cy) rfl;clear h;go_enter func256,ntmps256;go_wp2_with fail;go_ret;exact⟨rfl,rfl⟩
theorem MJ(w:World)(F:Nat→Prop)(cb p most clock:Nat)(ms:Int)(mb:Nat)(m:bU)(h:co w F cb p most clock ms mb m)(hk:(m.map (·.1)).Nodup):
  Calls prog 255 #[.map (some mb),.func (.func 256) #[] #[]] w fun e w'=>e=.returned (.tuple #[])∧co w' F cb p most clock ms mb (m.filter fun x => !x.2.cy)∧ae F w w':=by
 obtain⟨o,LW,Co⟩:=cX.made (P:=prog) h.map 256 3 257 underlying256;have ji:Q w (w.alloc o):=Q.alloc _ _;have h0:=h.keep ji;have aC:l7 m ((mapOf m).map (·.1))=m:=ud _ (fun x hx=>MD.2 ⟨(x.1,au x.2.p),MD.2 ⟨x,hx,rfl⟩,rfl⟩)
 rw[←aC] at h0;have qA:cX (w.alloc o) mb w.heap.size (mapOf (l7 m ((mapOf m).map (·.1)))) ((mapOf m).map (·.1)):=by rw[aC];exact Co
 have LX:=Hd qA;have H0:=Hd h0;have HH:=Hd h;have mF:=Hd ji;have HK:=Hd hk;clear Co qA h0 h ji aC hk;go_enter func255,ntmps255;go_wp2_with fail;clear LW;go_loopw [4] (fun _ wr=>∃left,Hid (cX wr mb w.heap.size (mapOf (l7 m left)) left)∧Hid (co wr F cb p most clock ms mb (l7 m left))∧Hid (ae F w wr)) (fun _ wr=>wr.rangeLeft mb w.heap.size)
 case atStart=>exact⟨_,LX,H0,Hd (ae.br mF.out)⟩
 case round =>
  obtain⟨left,HR,HC,HT⟩:=hrel;rcases cX.next (P:=prog) HR.out with ⟨rfl,gU⟩|⟨k,v,left',w',GU,qH,gU,qA,hg,hz,GX⟩
  ·have dK:=HC.out
   rw[show l7 m []=m.filter (fun x => !x.2.cy) from by unfold l7;simp] at dK
   have HF:=Hd dK;clear dK;go_wp2_with fail;go_end0;exact⟨rfl,HF.out,HT.out⟩
  ·obtain⟨x,hx,sH⟩:=MD.1 GU
   obtain⟨kx,kk⟩:=x;simp only[QR] at sH;obtain⟨rfl,rfl⟩:=sH;have Jy:=kL HK.out ((Gf m left).subset hx);obtain⟨s1,s2,s3,s4⟩:=WK HK.out Jy qH HR.out.nodup.1;have tr:ae (fun j=>j=w.heap.size) wr w':=co.eK hg
   have uZ:∀j,F j→j≠w.heap.size:=fun j hj e=>by have:=HH.out.lt j hj;omega
   have h1:=HC.out.beside tr uZ;have mP:=(h1.kept _ (gH s1)).1;have xY:ae F w w':=HT.out.more tr (fun j hj=>.inr (aeD hj.symm))
   have cd:=pZ w' kx kk mP;have ac5:w'.rangeLeft mb w.heap.size<wr.rangeLeft mb w.heap.size:=by rw[qA.len,HR.out.len,qH.length_eq];simp
   have CD:=Hd cd;have uN:=Hd ac5;clear cd ac5;cases nQ:kk.cy with
   | false =>
    have e4:=s4 nQ;rw[e4] at h1 qA;rw[nQ] at CD;have H1:=Hd h1;have HR1:=Hd qA;have D7:=Hd xY;clear h1 qA xY mP tr hg hz GU qH s1 s2 s3 s4 hx Jy e4 nQ;go_wp2_with fail;refine CD.out.mono ?_;rintro e w3 ⟨rfl,rfl⟩;go_wp2_with fail;go_roundw;case rel=>exact⟨left',HR1,H1,D7⟩
    case measure=>exact uN.out
   | true =>
    rw[nQ] at CD;have e3:=s3 nQ;have LQ:kx∈(mapOf (l7 m left)).map (·.1):=MD.2 ⟨_,GU,rfl⟩
    obtain⟨w4,Yu,OI,lV,zY⟩:=cX.delete (P:=prog) qA s2 LQ 256 3 257 underlying256 underlying3;have Cu:kN kx (mapOf (l7 m left))=mapOf (l7 m left'):=by
     rw[←e3];unfold mapOf;rw[Ql (fun k:gq=>au k.p)]
    rw[Cu] at OI;have t4:=co.eK lV;have sI:((l7 m left).map (·.1)).Nodup:=((Gf m left).map _).nodup HK.out
    have h4:=h1.gone (i:=kx) sI (by rw[Cu];exact OI.map) t4
    rw[e3] at h4;have G5:ae F w w4:=xY.trans (t4.mono (fun j hj=>by subst hj;exact HH.out.fm))
    have fT:w4.rangeLeft mb w.heap.size<wr.rangeLeft mb w.heap.size:=by rw[OI.len];have:=uN.out;rw[qA.len] at this;exact this
    have H4:=Hd h4;have RZ:=Hd OI;have G8:=Hd G5;have HL:=Hd fT;clear h4 OI G5 fT sI t4 lV zY Cu LQ e3 h1 qA xY mP tr hg hz GU qH s1 s2 s3 s4 hx Jy nQ;go_wp2_with fail;refine CD.out.mono ?_;rintro e w3 ⟨rfl,rfl⟩;go_wp2_with fail;go_roundw;case rel=>exact⟨left',RZ,H4,G8⟩
    case measure=>exact HL.out
theorem B2(w:World)(F:Nat→Prop)(cb p most clock:Nat)(ms:Int)(mb:Nat)(m:bU)(h:co w F cb p most clock ms mb m)(hk:(m.map (·.1)).Nodup):
  Calls prog 198 #[au cb] w fun e w'=>e=.returned (.tuple #[])∧co w' F cb p most clock ms mb (m.filter fun x => !x.2.cy)∧ae F w w':=by
 have c4:=h.box.cell 4 (.map (some mb)) rfl;have RU:=MJ w F cb p most clock ms mb m h hk;have HD:=Hd RU;clear RU h hk;go_enter func198,ntmps198;go_wp2_with fail;refine HD.out.mono ?_;rintro e w1 ⟨rfl,h1,t1⟩;have H1:=Hd h1;have T1:=Hd t1;clear h1 t1;go_wp2_with fail;go_end0;exact⟨rfl,H1.out,T1.out⟩
def nI(p cb tb:Nat)(σ:StL):Array Value:=#[au p,au cb,ah σ.ai,ah σ.was,.bool σ.open_,.map (some tb)]
structure StG (w:World) (FJ FC:Nat→Prop) (sb b p cb tb most clock:Nat) (ms:Int) (mb:Nat) (m:bU) (ti:List (Nat×Value)) (σ:StL):Prop where
 box:Blk w sb 158 (nI p cb tb σ)
 tm:di w tb ti
 jr:cG w FJ p b σ.j
 ca:co w FC cb p most clock ms mb m
 apart:∀k,FJ k→¬FC k
 sF:¬FJ sb∧¬FC sb
 tF:¬FJ tb∧¬FC tb
 ok:σ.dead=false→cP σ.n most clock σ.tx σ.j.d.get m
 keys:∀k,k∈ti.map (·.1)↔k∈σ.tx.map (·.1)
 ints:∀x∈ti,∃c:Int,x.2=.int .i64 c
theorem Blk.c6{w:World}{k:Nat}{t:TypeId}{a0 a1 a2 a3 a4 a5:Value}(h:Blk w k t #[a0,a1,a2,a3,a4,a5]):
  w.cell? ⟨k,0,none⟩=some a0∧w.cell? ⟨k,1,none⟩=some a1∧w.cell? ⟨k,2,none⟩=some a2∧w.cell? ⟨k,3,none⟩=some a3∧w.cell? ⟨k,4,none⟩=some a4∧w.cell? ⟨k,5,none⟩=some a5 :=
 ⟨h.cell 0 _ rfl,h.cell 1 _ rfl,h.cell 2 _ rfl,h.cell 3 _ rfl,h.cell 4 _ rfl,h.cell 5 _ rfl⟩
theorem StG.keep{w w':World}{FJ FC:Nat→Prop}{sb b p cb tb most clock:Nat}{ms:Int}{mb:Nat}{m:bU}{ti:List (Nat×Value)}{σ:StL}(h:StG w FJ FC sb b p cb tb most clock ms mb m ti σ)(q:Q w w'):StG w' FJ FC sb b p cb tb most clock ms mb m ti σ :=
 ⟨h.box.stays q,h.tm.same (q.block _ h.tm.lt),h.jr.keep q,h.ca.keep q,h.apart,h.sF,h.tF,h.ok,h.keys,h.ints⟩
def ce(w:World)(F:Nat→Prop)(sb b:Nat)(σ:StL)(K:Nat):Prop :=
 ∃FJ FC p cb tb most clock ms mb m ti,StG w FJ FC sb b p cb tb most clock ms mb m ti σ∧(∀k,FJ k∨FC k∨k=sb∨k=tb→F k)∧(∀k,F k→k<w.heap.size)∧clock≤K
theorem ce.keep{w w':World}{F:Nat→Prop}{sb b:Nat}{σ:StL}{K:Nat}(h:ce w F sb b σ K)(q:Q w w'):ce w' F sb b σ K:=by
 obtain⟨FJ,FC,p,cb,tb,most,clock,ms,mb,m,ti,h1,h2,h3,h4⟩:=h;exact⟨FJ,FC,p,cb,tb,most,clock,ms,mb,m,ti,h1.keep q,h2,fun k hk=>Ψ (h3 k hk) q.size,h4⟩
theorem ce.mono{w:World}{F G:Nat→Prop}{sb b:Nat}{σ:StL}{K K':Nat}(h:ce w F sb b σ K)(k:∀i,F i→G i)(hl:∀i,G i→i<w.heap.size)(hK:K≤K'):ce w G sb b σ K':=by
 obtain⟨FJ,FC,p,cb,tb,most,clock,ms,mb,m,ti,h1,h2,h3,h4⟩:=h;exact⟨FJ,FC,p,cb,tb,most,clock,ms,mb,m,ti,h1,fun i hi=>k i (h2 i hi),hl,LS h4 hK⟩
theorem ce.lt{w:World}{F:Nat→Prop}{sb b:Nat}{σ:StL}{K:Nat}(h:ce w F sb b σ K):∀k,F k→k<w.heap.size:=by
 obtain⟨FJ,FC,p,cb,tb,most,clock,ms,mb,m,ti,h1,h2,h3,h4⟩:=h;exact h3
theorem ce.quiet{w w':World}{F:Nat→Prop}{sb b:Nat}{σ:StL}{K K':Nat}(h:ce w F sb b σ K)(q:Q w w')(hK:K≤K'):ce w' (grow F w w') sb b σ K'∧ae F w w' :=
 ⟨(h.keep q).mono (fun k hk=>.inl hk) (fun k hk=>hk.elim (fun hk=>Ψ (h.lt k hk) q.size) (fun hk=>hk.2)) hK,ae.br q⟩
theorem BS(n:Nat)(w:World)(hn:n≤1000000):
  Calls prog 152 #[.int .i64 (n:Nat)] w fun e w'=>e=.returned (.int .i64 (aD n:Nat))∧w=w':=by
 have h:((aD n:Nat):Int)=((n:Int)+2048-1) / 2048:=by unfold aD;omega
 rw[h];clear h;go_enter func152,ntmps152;go_wp2;go_ret;exact⟨rfl,rfl⟩
theorem ML(n:Nat)(w:World)(hn:n≤1000000):
  Calls prog 82 #[.int .i64 (n:Nat)] w fun e w'=>e=.returned (.int .i64 (ak n:Nat))∧w=w':=by
 have hp:=BS n w hn;have hb:aD n≤1000000:=by unfold aD;omega
 have h:((ak n:Nat):Int)=63+(aD n:Int):=by unfold ak;omega
 rw[h];have HP:=Hd hp;clear h hp;go_enter func82,ntmps82;go_wp2_with fail;refine HP.out.mono ?_;rintro e w1 ⟨rfl,rfl⟩;go_wp2_with fail;go_ret;exact⟨rfl,rfl⟩
theorem Nv(n:Nat)(w:World)(hn:n≤1000000):
  Calls prog 153 #[.int .i64 (n:Nat)] w fun e w'=>e=.returned (ah (jv n))∧Q w w':=by
 have hc:=fun (W:World)=>vY n W U
 have hr:=fun (W:World)=>Tryz.strings_Repeat_main ⟨#[0]⟩ 248 W Z Z Z Z
 have hz:(Lib.repeatL [(0:UInt8)] 248)=bg 248:=by decide +kernel
 have kG:=aH n;have HC:=Hd hc;have HR:=Hd hr;have HZ:=Hd hz;clear hc hr hz;go_enter func153,ntmps153;go_wp2_with fail;refine(HC.out _).mono ?_;rintro e w1 ⟨rfl,q1⟩;have dF:=Hd q1;clear q1;go_wp2_with fail;refine(HR.out _).mono ?_;rintro e w2 ⟨rfl,q2⟩;have bJ:=Hd (dF.out.trans q2);clear q2;rw[HZ.out];go_wp2_with fail;go_ret;refine⟨?_,bJ.out⟩;have he:(({ data:=#[67,68,88,66] }:ByteArray)++{ data:=(aB n).toArray })++{ data:=(bg 248).toArray }=⟨(jv n).toArray⟩:=by
  rw[show({ data:=#[67,68,88,66] }:ByteArray)=⟨([67,68,88,66]:Bytes).toArray⟩ from rfl,bytes_append,bytes_append,Mm];rfl
 exact Pu (fun x=>Ending.returned (.string x)) he
theorem JV(t:Bytes)(i:Nat)(w:World)(hi:(i+1)*256≤t.length)(hl:t.length≤1000000):
  Calls prog 169 #[ah t,.int .i64 (i:Nat)] w fun e w'=>e=.returned (ah (aG t i))∧w=w':=by
 go_enter func169,ntmps169;go_wp2_with fail;go_ret;refine⟨?_,rfl⟩;have he:({ data:=t.toArray }:ByteArray).extract (i*256) ((i+1)*256)=⟨(aG t i).toArray⟩:=by
  rw[eY,show(i+1)*256-i*256=256 by omega];rfl
 exact Pu (fun x=>Ending.returned (.string x)) he
end
section
open Go.RowKit
variable {w:World} {FJ FC:Nat→Prop} {sb b p cb tb most clock:Nat} {ms:Int} {mb:Nat} {m:bU} {ti:List (Nat×Value)} {σ:StL}
theorem uT(h:StG w FJ FC sb b p cb tb most clock ms mb m ti σ):
  Calls prog 83 #[au sb] w fun e w'=>e=.returned (.int .i64 (σ.n:Nat))∧w=w':=by
 obtain⟨c0,_⟩:=Blk.c6 h.box;obtain⟨d0,_⟩:=h.jr.box.c8;have hb:=oL w FJ b σ.j.d h.jr.dev;have HB:=Hd hb;clear hb h;show Calls _ _ _ _ fun e w'=>e=.returned (.int .i64 (σ.j.d.l.length:Nat))∧w=w'
 go_enter func83,ntmps83;go_wp2_with fail;refine HB.out.mono ?_;rintro e w1 ⟨rfl,rfl⟩;go_wp2_with fail;go_ret;exact⟨rfl,rfl⟩
theorem Ew(h:StG w FJ FC sb b p cb tb most clock ms mb m ti σ)(hn:σ.n≤4096):
  Calls prog 39 #[au sb] w fun e w'=>e=.returned (.int .i64 (ak σ.n:Nat))∧w=w':=by
 have hb:=uT h;have hf:=ML σ.n w U;have HB:=Hd hb;have HF:=Hd hf;clear hb h hf;go_enter func39,ntmps39;go_wp2_with fail;refine HB.out.mono ?_;rintro e w1 ⟨rfl,rfl⟩;go_wp2_with fail;refine HF.out.mono ?_;rintro e w1 ⟨rfl,rfl⟩;go_wp2_with fail;go_ret;exact⟨rfl,rfl⟩
theorem rq(h:StG w FJ FC sb b p cb tb most clock ms mb m ti σ)(hn:iL σ):
  Calls prog 45 #[au sb] w fun e w'=>e=.returned (.int .i64 (σ.free:Nat))∧Q w w':=by
 have iH:=hn.max;have hb:=fun (W:World) (q:Q w W)=>uT (h.keep q)
 have gK:=jQ σ.n (by have:=hn.big;omega)
 have hf:∀W:World,Calls prog 91 #[ah σ.ai,.int .i64 (σ.n:Nat)] W fun e w'=>e=.returned (.int .i64 (cnt σ.ai (fA σ.ai σ.n)))∧Q W w':=fun W=>Ny σ.ai σ.n W (by have:=hn.map;omega) U U
 have ku:fA σ.ai σ.n=σ.n:=by unfold fA;have:=hn.map;omega
 rw[ku] at hf;obtain⟨c0,c1,c2,_⟩:=Blk.c6 h.box;have dQ:σ.free=cnt σ.ai σ.n:=rfl;rw[dQ];have HB:=Hd hb;have HF:=Hd hf;clear hb h hf ku dQ hn;generalize σ.ai=m1 at *;generalize σ.n=n at *;have KK:=Hd (Q.refl w);go_enter func45,ntmps45;go_wp2_with fail;go_region_held3 (fun w'=>w'.cell? ⟨sb,2,none⟩=some (ah m1))
  (first|exact c2|exact aI δ c2)
  (first
   | (go_at_call 83;with_reducible refine(HB.out _ ω).mono ?_;rintro e w5 ⟨rfl,rfl⟩)
   | (go_at_call 91;with_reducible refine(HF.out _).mono ?_;rintro e w6 ⟨rfl,q6⟩;have s':Q w w6:=Q.trans ω q6;clear KK;have KK:=Hd s';clear s' q6))
 all_goals
  go_wp2_with fail;go_ret;exact⟨rfl,ω⟩
theorem Gh(i:Int)(h:StG w FJ FC sb b p cb tb most clock ms mb m ti σ)(hn:σ.n≤4096):
  Calls prog 141 #[au sb,.int .i64 i] w fun e w'=>e=.returned (.bool (σ.cQ i))∧w=w':=by
 have hb:=uT h;have hf:=Ew h hn;have HB:=Hd hb;have HF:=Hd hf;clear hb h hf;unfold StL.cQ;generalize ak σ.n=fd at *;by_cases hi:(fd:Int)≤i
 ·have hb1:decide ((fd:Int)≤i)=true:=MM hi
  have e1:decide ((fd:Int)≤i∧i<(σ.n:Int))=decide (i<(σ.n:Int)):=by simp[hi]
  rw[e1];generalize σ.n=n at *;clear e1;go_enter func141,ntmps141;go_wp2_with fail;refine HF.out.mono ?_;rintro e w1 ⟨rfl,rfl⟩;go_wp2_with fail;refine HB.out.mono ?_;rintro e w1 ⟨rfl,rfl⟩;go_wp2_with fail;go_ret;exact⟨rfl,rfl⟩
 ·have e1:decide ((fd:Int)≤i∧i<(σ.n:Int))=false:=by simp[hi]
  rw[e1];generalize σ.n=n at *;clear e1;go_enter func141,ntmps141;go_wp2_with fail;refine HF.out.mono ?_;rintro e w1 ⟨rfl,rfl⟩;go_wp2_with fail;go_ret;exact⟨rfl,rfl⟩
theorem Ey(o:Bool)(h:StG w FJ FC sb b p cb tb most clock ms mb m ti σ):
  Calls prog 129 #[au sb,.bool o] w fun e w'=>e=.returned (.int .i64 (σ.state o))∧w=w':=by
 obtain⟨c0,c1,c2,c3,c4,c5⟩:=Blk.c6 h.box;obtain⟨d0,_⟩:=h.jr.box.c8;have hd:=JQ w FJ b σ.j.d h.jr.dev;have he:σ.j.d.dead=σ.dead:=rfl;rw[he] at hd;have HD:=Hd hd;clear hd h he;unfold StL.state;generalize σ.dead=dd at *;generalize σ.open_=oo at *;cases dd with
 | true =>
  simp only[PM];go_enter func129,ntmps129;go_wp2_with fail;refine HD.out.mono ?_;rintro e w1 ⟨rfl,rfl⟩;go_wp2_with fail;go_ret;exact⟨rfl,rfl⟩
 | false =>
  simp only[M2,ON];cases oo<;>cases o
  all_goals
   go_enter func129,ntmps129;go_wp2_with fail;refine HD.out.mono ?_;rintro e w1 ⟨rfl,rfl⟩;go_wp2_with fail;go_ret;exact⟨rfl,rfl⟩
end
section
open Go.RowKit
variable {w w':World} {FJ FC F:Nat→Prop} {sb b p cb tb most clock clock':Nat} {ms ms':Int} {mb:Nat} {m m':bU} {ti ti':List (Nat×Value)} {σ σ':StL} {K:Nat}
theorem StG.ne(h:StG w FJ FC sb b p cb tb most clock ms mb m ti σ):sb≠tb:=rX h.box h.tm
theorem StG.cache(h:StG w FJ FC sb b p cb tb most clock ms mb m ti σ)(t:ae FC w w')(hc:co w' (grow FC w w') cb p most clock' ms' mb m')(bQ:σ.dead=false→cP σ.n most clock' σ.tx σ.j.d.get m'):StG w' FJ (grow FC w w') sb b p cb tb most clock' ms' mb m' ti σ:=by
 have OJ:=h.box.lt;have ay:=h.tm.lt;exact⟨t.blk h.box h.sF.2,h.tm.same (t.block _ h.tm.lt h.tF.2),h.jr.beside t (fun k hk hc=>h.apart k hk hc),hc,fun k hk hg=>hg.elim (fun hg=>h.apart k hk hg) (fun hg=>by have:=h.jr.lt k hk;omega),⟨h.sF.1,fun hg=>hg.elim h.sF.2 (fun hg=>U)⟩,⟨h.tF.1,fun hg=>hg.elim h.tF.2 (fun hg=>U)⟩,bQ,h.keys,h.ints⟩
theorem StG.gS(h:StG w FJ FC sb b p cb tb most clock ms mb m ti σ)(t:ae (fun k=>k=sb) w w')(hb:Blk w' sb 158 (nI p cb tb σ'))(hj:σ'.j=σ.j)(mO:σ'.tx=σ.tx):StG w' FJ FC sb b p cb tb most clock ms mb m ti σ':=by
 refine⟨hb,h.tm.same (t.block _ h.tm.lt h.ne.symm),by rw[hj];exact h.jr.beside t (fun k hk e=>h.sF.1 (e▸hk)),h.ca.beside t (fun k hk e=>h.sF.2 (e▸hk)),h.apart,h.sF,h.tF,fun hd=>?_,by rw[mO];exact h.keys,h.ints⟩
 have e1:σ'.dead=σ.dead:=by unfold StL.dead;rw[hj]
 have e2:σ'.n=σ.n:=by unfold StL.n;rw[hj]
 rw[e1] at hd;rw[e2,mO,hj];exact h.ok hd
theorem ce.EE(h:StG w FJ FC sb b p cb tb most clock ms mb m ti σ)(hF:∀k,FJ k∨FC k∨k=sb∨k=tb→F k)(ay:∀k,F k→k<w.heap.size)(t:ae FC w w')(hc:co w' (grow FC w w') cb p most clock' ms' mb m')(bQ:σ.dead=false→cP σ.n most clock' σ.tx σ.j.d.get m')(hK:clock'≤K):
  ce w' (grow F w w') sb b σ K∧ae F w w':=by
 have tF:ae F w w':=t.mono (fun k hk=>hF k (.inr (.inl hk)))
 refine⟨⟨_,_,_,_,_,_,_,_,_,_,_,h.cache t hc bQ,fun k hk=>?_,fun k hk=>hk.elim (fun hk=>Ψ (ay k hk) t.size) (fun hk=>hk.2),hK⟩,tF⟩
 rcases hk with hk|hk|hk|hk
 ·exact .inl (hF k (.inl hk))
 ·exact hk.elim (fun hk=>.inl (hF k (.inr (.inl hk)))) .inr
 ·exact .inl (hF k (.inr (.inr (.inl hk))))
 ·exact .inl (hF k (.inr (.inr (.inr hk))))
theorem ue(w:World)(F:Nat→Prop)(sb b:Nat)(σ:StL)(K:Nat)(i:Int)(h:ce w F sb b σ K)(hn:iL σ)(hK:K≤1000000000000000000):
  Calls prog 78 #[au sb,.int .i64 i] w fun e w'=>e=.returned (.tuple #[ah (σ.read i).1,.int .i64 (σ.read i).2])∧ce w' (grow F w w') sb b σ (K+1)∧ae F w w':=by
 have dG:=(h.quiet (Q.refl w) (ab6 K));obtain⟨FJ,FC,p,cb,tb,most,clock,ms,mb,m,ti,hg,hF,ay,bL⟩:=h;obtain⟨c0,c1,c2,c3,c4,c5⟩:=Blk.c6 hg.box;obtain⟨d0,_⟩:=hg.jr.box.c8;have hd:=JQ w FJ b σ.j.d hg.jr.dev;have he:σ.j.d.dead=σ.dead:=rfl;rw[he] at hd;have iG:=Gh i hg hn.max;cases lW:σ.dead with
 | true =>
  have hr:σ.read i=([],4):=by unfold StL.read;rw[lW,Φ rfl]
  rw[lW] at hd;rw[hr];have HD:=Hd hd;have HS:=Hd dG;clear hd iG hg dG hn hF ay hr he;go_enter func78,ntmps78;go_wp2_with fail;refine HD.out.mono ?_;rintro e w1 ⟨rfl,rfl⟩;go_wp2_with fail;go_ret2;exact⟨rfl,HS.out.1,HS.out.2⟩
 | false =>
  rw[lW] at hd;cases gX:σ.cQ i with
  | false =>
   have hr:σ.read i=([],2):=by unfold StL.read;rw[lW,gX];rfl
   rw[gX] at iG;rw[hr];have HD:=Hd hd;have HS:=Hd dG;have rJ:=Hd iG;clear hd iG hg dG hn hF ay hr he;go_enter func78,ntmps78;go_wp2_with fail;refine HD.out.mono ?_;rintro e w1 ⟨rfl,rfl⟩;go_wp2_with fail;refine rJ.out.mono ?_;rintro e w1 ⟨rfl,rfl⟩;go_wp2_with fail;go_ret2;exact⟨rfl,HS.out.1,HS.out.2⟩
  | true =>
   rw[gX] at iG;have tT:=gX;unfold StL.cQ at tT;simp only[TX] at tT;obtain⟨j,rfl⟩:∃j:Nat,i=(j:Nat):=⟨i.toNat,U⟩;have hjn:j<σ.n:=U;have hr:σ.read (j:Nat)=(bH σ.tx j (σ.j.d.get j),0):=by unfold StL.read;rw[lW,gX];rfl
   obtain⟨n1,n2,n3,n4,n5,n6⟩:=hn.num lW;have Cw:σ.j.d.read (j:Nat)=(σ.j.d.get j,0):=by
    unfold af.read;rw[af.gC lW j hjn,Φ rfl];rfl
   have dz:=AQ w FJ b σ.j.d (j:Nat) hg.jr.dev hn.max (fun _=>by have:=n1.eJ lW;omega)
   rw[Cw] at dz;have ac7:=yo w FC cb p b σ.n most clock ms mb m σ.tx σ.j.d.get j hg.ca (hg.ok lW) d0 ⟨by have:=tT.1;unfold ak at this;omega,hjn⟩ U dz (fun W q hW=>Qt W FC cb p σ.n most clock ms mb m σ.tx σ.j.d.get hW (hg.ok lW) U)
   rw[hr];have HD:=Hd hd;have rJ:=Hd iG;have Fw:=Hd ac7;have HG:=Hd hg;have HF:=Hd hF;have iI:=Hd ay;clear hd iG ac7 dz Cw dG hF ay hr hg n1 n2 n3 n4 n5 n6 hn gX he tT;go_enter func78,ntmps78;go_wp2_with fail;refine HD.out.mono ?_;rintro e w1 ⟨rfl,rfl⟩;go_wp2_with fail;refine rJ.out.mono ?_;rintro e w1 ⟨rfl,rfl⟩;go_wp2_with fail;refine Fw.out.mono ?_;rintro e w2 ⟨rfl,t2,m2,ms2,h2,o2⟩;have hend:=ce.EE HG.out HF.out iI.out t2 h2 (fun _=>o2) (K:=K+1) U
   have HE:=Hd hend;clear t2 h2 o2 hend;go_wp2_with fail;go_ret2;exact⟨rfl,HE.out.1,HE.out.2⟩
theorem WM(w:World)(F:Nat→Prop)(sb b:Nat)(σ:StL)(K:Nat)(h:ce w F sb b σ K):
  Calls prog 68 #[au sb] w fun e w'=>e=.returned (.int .i64 σ.begin.2)∧ce w' (grow F w w') sb b σ.begin.1 K∧ae F w w':=by
 have dG:=(h.quiet (Q.refl w) (Ω K));obtain⟨FJ,FC,p,cb,tb,most,clock,ms,mb,m,ti,hg,hF,ay,bL⟩:=h;have aC:=Ey false hg;by_cases hz:σ.state false=0
 ·have hb:σ.begin=({ σ with open_:=true,was:=σ.ai },0):=by unfold StL.begin;rw[η (by rw[hz];decide)]
  rw[hb];rw[hz] at aC;obtain⟨c0,c1,c2,c3,c4,c5⟩:=Blk.c6 hg.box;have f3:=hg.box.frozen 3;have f4:=hg.box.frozen 4;have t1:ae (fun k=>k=sb) w ((w.setCell ⟨sb,4,none⟩ (.bool true)).setCell ⟨sb,3,none⟩ (ah σ.ai)):=ae.setCell (a:=⟨sb,3,none⟩) (ae.setCell (a:=⟨sb,4,none⟩) (ae.refl (fun k=>k=sb) w) (.inl rfl) _) (.inl rfl) _
  have hb1:Blk ((w.setCell ⟨sb,4,none⟩ (.bool true)).setCell ⟨sb,3,none⟩ (ah σ.ai)) sb 158 (nI p cb tb { σ with open_:=true,was:=σ.ai }):=(hg.box.set 4 (.bool true)).set 3 (ah σ.ai);have h1:=hg.gS t1 hb1 rfl rfl;have hsF:F sb:=hF sb (.inr (.inr (.inl rfl)));have tF:ae F w ((w.setCell ⟨sb,4,none⟩ (.bool true)).setCell ⟨sb,3,none⟩ (ah σ.ai)):=t1.mono (fun k hk=>by subst hk;exact hsF)
  have hend:ce ((w.setCell ⟨sb,4,none⟩ (.bool true)).setCell ⟨sb,3,none⟩ (ah σ.ai)) (grow F w ((w.setCell ⟨sb,4,none⟩ (.bool true)).setCell ⟨sb,3,none⟩ (ah σ.ai))) sb b { σ with open_:=true,was:=σ.ai } K:=⟨_,_,_,_,_,_,_,_,_,_,_,h1,fun k hk=>.inl (hF k hk),fun k hk=>hk.elim (fun hk=>Ψ (ay k hk) tF.size) (fun hk=>hk.2),bL⟩
  have HS:=Hd aC;have HE:=Hd hend;have HT:=Hd tF;clear aC hend tF h1 hb1 t1 hg hb hF ay dG;go_enter func68,ntmps68;go_wp2_with fail;refine HS.out.mono ?_;rintro e w1 ⟨rfl,rfl⟩;go_wp2_with fail;go_ret;exact⟨rfl,HE.out,HT.out⟩
 ·have hb:σ.begin=(σ,σ.state false):=by unfold StL.begin;rw[Φ hz]
  rw[hb];have e1:(σ.state false==0)=false:=Γ.2 hz;have HS:=Hd aC;have HE:=Hd dG;clear aC hg hb hF ay dG hz;simp only at HS HE ⊢;generalize σ.state false=x at *;go_enter func68,ntmps68;go_wp2_with fail;refine HS.out.mono ?_;rintro e w1 ⟨rfl,rfl⟩;go_wp2_with fail;go_ret;exact⟨rfl,HE.out.1,HE.out.2⟩
end
section
open Go.RowKit
theorem yM(w:World):Calls prog 203 #[] w fun e w'=>e=.returned (ah ag)∧Q w w':=by
 have h:=Tryz.strings_Repeat_main ⟨#[0]⟩ 256 w Z Z Z Z;have he:(Lib.repeatL [(0:UInt8)] 256)=ag:=by decide +kernel
 have HE:=Hd he;have H:=Hd h;clear he h;go_enter func203,ntmps203;go_wp2_with fail;refine H.out.mono ?_;rintro e w1 ⟨rfl,hq⟩;have HQ:=Hd hq;clear hq;rw[HE.out];go_wp2_with fail;go_ret;exact⟨rfl,HQ.out⟩
theorem NI(w:World)(p b:Nat)(j:JL)(hb:Blk w p 216 (jd b j))(hl:j.s.log≤1000000):
  Calls prog 150 #[au p] w fun e w'=>e=.returned (.int .i64 (j.home:Nat))∧w=w':=by
 obtain⟨c0,c1,c2,c3,_⟩:=hb.c8;have hh:((j.home:Nat):Int)=2+(j.s.log:Int):=by unfold JL.home;omega
 rw[hh];clear hb hh;go_enter func150,ntmps150;go_wp2;go_ret;exact⟨rfl,rfl⟩
theorem vZ(w:World)(p b:Nat)(j:JL)(n:Nat)(hb:Blk w p 216 (jd b j))(hl:0<j.s.log)(fF:j.s.log≤1000000)(hp:j.s.place≤1000000)(hu:j.used≤1000000)(hn:n≤1000000):
  Calls prog 204 #[au p,.int .i64 (n:Nat)] w fun e w'=>e=.returned (.int .i64 (j.place n:Nat))∧Q w w':=by
 obtain⟨c0,c1,c2,c3,c4,c5,c6,c7⟩:=hb.c8;have hh:((j.place n:Nat):Int)=2+(((j.s.place:Int)+(j.used:Int)+(n:Int))%(j.s.log:Int)):=by unfold JL.place cV;rw[←Ps];simp only[abl,ZS];rfl
 rw[hh];have nL:¬(j.s.log:Int)=0:=U;have Yw:((j.s.place:Int)+(j.used:Int)+(n:Int))%(j.s.log:Int)<(j.s.log:Int):=aes _ U;have afG:0≤((j.s.place:Int)+(j.used:Int)+(n:Int))%(j.s.log:Int):=Int.emod_nonneg _ U;clear hb hh;go_enter func204,ntmps204;go_wp2_with fail;go_quiet (fail);go_wp2_with fail;go_ret;exact⟨rfl,Q.drewN _ _⟩
theorem NJ(w:World)(F:Nat→Prop)(p b:Nat)(j:JL)(i:Int)(hb:Blk w p 216 (jd b j))(hd:cF w F b j.d)(hl:j.s.log≤1000000):
  Calls prog 257 #[au p,.int .i64 i] w fun e w'=>e=.returned (.bool (decide ((j.home:Int)≤i)&&decide (i<j.d.l.length)))∧w=w':=by
 have h1:=NI w p b j hb hl;have h2:=oL w F b j.d hd;obtain⟨c0,c1,c2,c3,_⟩:=hb.c8;generalize j.home=hm at *;generalize j.d.l.length=n at *;have H1:=Hd h1;have H2:=Hd h2;clear h1 h2 hb hd;by_cases hi:(hm:Int)≤i
 ·have hb1:decide ((hm:Int)≤i)=true:=MM hi
  rw[hb1,acd];go_enter func257,ntmps257;go_wp2_with fail;refine H1.out.mono ?_;rintro e w1 ⟨rfl,rfl⟩;go_wp2_with fail;refine H2.out.mono ?_;rintro e w1 ⟨rfl,rfl⟩;go_wp2_with fail;go_ret;exact⟨rfl,rfl⟩
 ·have hb1:decide ((hm:Int)≤i)=false:=Mz hi
  rw[hb1,Bool.false_and];go_enter func257,ntmps257;go_wp2_with fail;refine H1.out.mono ?_;rintro e w1 ⟨rfl,rfl⟩;go_wp2_with fail;go_ret;exact⟨rfl,rfl⟩
theorem Di(w:World)(p b:Nat)(j:JL)(n:Nat)(hb:Blk w p 216 (jd b j))(hu:j.used≤1000000)(hn:n≤1000000)(hx:j.next<18446744073709551616):
  Calls prog 206 #[au p,.int .i64 (n:Nat)] w fun e w'=>e=.returned (.tuple #[])∧Blk w' p 216 (jd b (j.advance n))∧ae (fun k=>k=p) w w'∧w'.heap.size=w.heap.size:=by
 obtain⟨c0,c1,c2,c3,c4,c5,c6,c7⟩:=hb.c8;have hf:=fun i=>hb.frozen i
 have f6:=hf 6;have f7:=hf 7;have kE:=hb.set 7 (.int .i64 ((j.used:Int)+((n:Int)+1)));have d6:=kE.cell 6 (.int .u64 (j.next:Nat)) rfl;have g6:=kE.frozen 6;have Yx:=kE.set 6 (.int .u64 (((j.next+1)%18446744073709551616:Nat):Int));have he:((jd b j).setIfInBounds 7 (.int .i64 ((j.used:Int)+((n:Int)+1)))).setIfInBounds 6 (.int .u64 (((j.next+1)%18446744073709551616:Nat):Int))=jd b (j.advance n):=by
  unfold jd JL.advance;rw[show((j.used+n+1:Nat):Int)=(j.used:Int)+((n:Int)+1) by omega]
  rfl
 rw[he] at Yx;have ht:ae (fun k=>k=p) w ((w.setCell ⟨p,7,none⟩ (.int .i64 ((j.used:Int)+((n:Int)+1)))).setCell ⟨p,6,none⟩ (.int .u64 (((j.next+1)%18446744073709551616:Nat):Int))) :=
  ae.setCell (a:=⟨p,6,none⟩) (ae.setCell (a:=⟨p,7,none⟩) (ae.refl (fun k=>k=p) w) (.inl rfl) _) (.inl rfl) _
 have hz:((w.setCell ⟨p,7,none⟩ (.int .i64 ((j.used:Int)+((n:Int)+1)))).setCell ⟨p,6,none⟩ (.int .u64 (((j.next+1)%18446744073709551616:Nat):Int))).heap.size=w.heap.size:=by rw[bO,bO]
 have hw:IntKind.u64.wrap ((j.next:Int)+1)=(((j.next+1)%18446744073709551616:Nat):Int):=by simp[IntKind.wrap,IntKind.bits,IntKind.signed]
 have H:=Hd (And.intro Yx (And.intro ht hz));clear kE Yx he ht hz hf hb c0 c1 c2 c3 c4 c5;generalize (j.next+1)%18446744073709551616=nx at *;go_enter func206,ntmps206;have HW:=Hd hw;clear hw;go_wp2;go_end0;rw[HW.out];exact⟨rfl,H.out.1,H.out.2.1,H.out.2.2⟩
def yN(s:bu):Nat→Bytes
 | 0=>fL
 | 1=>fL++(aB s.e++aB (s.e / 4294967296))
 | _=>fL++(aB s.e++aB (s.e / 4294967296))++(aB s.s++aB (s.s / 4294967296))
def Iy(s:bu)(k:Nat):Nat:=if k=0 then s.e else s.s
theorem WU(s:bu)(k:Nat)(h:k<2):yN s (k+1)=yN s k++(aB (Iy s k%4294967296)++aB (Iy s k / 4294967296)):=by
 rw[uq];rcases (by omega:k=0∨k=1) with rfl|rfl<;>rfl
theorem vi(s:bu)(k:Nat):(yN s k).length≤20:=by
 unfold yN;split<;>simp[fL,aH]
theorem wt(s:bu):(yN s 2++(aB (s.log%4294967296)++aB (s.place%4294967296)))++bg 100=gN s:=by
 rw[uq,uq];simp only[yN,gN,Mm]
theorem AR(s:bu)(hs:s.Ok)(w:World):
  Calls prog 239 #[.agg #[.int .u64 (s.e:Nat),.int .u64 (s.s:Nat),.int .i64 (s.log:Nat),.int .i64 (s.place:Nat)]] w fun e w'=>e=.returned (ah (aQ s))∧Q w w':=by
 have cf:=fun (v:Nat) (hv:v<4294967296) (W:World)=>vY v W hv
 have cr:=fun (W:World)=>Tryz.strings_Repeat_main ⟨#[0]⟩ 100 W Z Z Z Z
 have he:(Lib.repeatL [(0:UInt8)] 100)=bg 100:=by decide +kernel
 have aC:=WU s;have GX:=wt s;have h2:(yN s 2).length=20:=rfl;have CF:=Hd cf;have CR:=Hd cr;have HE:=Hd he;have aX:=Hd aC;have HEN:=Hd GX;have HS:=Hd hs;have qa:=(Q.alloc w (.cells #[.int .u64 (s.e:Nat),.int .u64 (s.s:Nat),.int .i64 (s.log:Nat),.int .i64 (s.place:Nat)] 214));clear cf cr he aC GX hs;go_enter func239,ntmps239;go_wp2_with fail;obtain⟨b0,b1,b2,b3,_⟩:=(Blk.new w 214 #[.int .u64 (s.e:Nat),.int .u64 (s.s:Nat),.int .i64 (s.log:Nat),.int .i64 (s.place:Nat)]).c4;generalize eO:w.alloc (.cells #[.int .u64 (s.e:Nat),.int .u64 (s.s:Nat),.int .i64 (s.log:Nat),.int .i64 (s.place:Nat)] 214)=w1 at *;have bB:w1.heap.size=w.heap.size+1:=by rw[←eO];simp
 have qb:=Q.alloc w1 (.cells #[.int .u64 (s.e:Nat),.int .u64 (s.s:Nat)] 170);obtain⟨a0,a1,_⟩:=(Blk.new w1 170 #[.int .u64 (s.e:Nat),.int .u64 (s.s:Nat)]).c2;rw[bB] at a0 a1;have b0':=aj qb b0;have b1':=aj qb b1;have b2':=aj qb b2;have b3':=aj qb b3;generalize gD:w1.alloc (.cells #[.int .u64 (s.e:Nat),.int .u64 (s.s:Nat)] 170)=w2 at *;have HQ:=Hd (qa.trans qb);clear qa qb b0 b1 b2 b3 eO gD;go_loopw [3,12] (fun tv v wr=>∃k:Nat,v=.int .i64 (k:Nat)∧k≤2∧tv=ah (yN s k)∧Hid (Q w2 wr)) (fun _ v _=>2-(intOf v).toNat)
 case atStart=>exact⟨0,rfl,U,rfl,Q.refl _⟩
 case round =>
  obtain⟨k,rfl,hk,rfl,bJ⟩:=hrel;by_cases ay:k<2
  ·have bq:(k:Int)<2:=U
   have zI:w2.cell? ⟨w.heap.size+1,k,none⟩=some (.int .u64 (Iy s k:Nat)):=by
    rcases (by omega:k=0∨k=1) with rfl|rfl
    ·exact a0
    ·exact a1
   have hv:Iy s k<18446744073709551616:=by
    unfold Iy;split
    ·exact HS.out.he
    ·exact HS.out.hs
   have d0:=aj bJ.out zI;have kU:=aX.out k ay;have Sd:=Hd kU;clear kU zI a0 a1;have ltk:=vi s k;generalize Iy s k=v at *;generalize yN s k=tk at *;have l1:(aB (v%4294967296)).length=4:=rfl;have l2:(aB (v / 4294967296)).length=4:=rfl;go_wp2_with fail;rw[show((v:Int)%4294967296)=((v%4294967296:Nat):Int) by omega]
   refine(CF.out _ U _).mono ?_;rintro e w3 ⟨rfl,q3⟩;have fu:=Hd (bJ.out.trans q3);clear q3;go_wp2_with fail;rw[show((v:Int) / 4294967296)=((v / 4294967296:Nat):Int) by omega]
   refine(CF.out _ U _).mono ?_;rintro e w4 ⟨rfl,q4⟩;have lH:=Hd (fu.out.trans q4);clear q4;go_wp2_with fail;go_roundw;case rel=>exact⟨k+1,by go_num,U,by rw[Sd.out];simp only[bytes_append],lH.out⟩
   case measure=>simp[intOf];omega
  ·have bq:¬(k:Int)<2:=U
   obtain rfl:k=2:=U;have e2:=aj bJ.out b2';have e3:=aj bJ.out b3';have hl:s.log<4294967296:=HS.out.cH;have hp:s.place<4294967296:=HS.out.eV;generalize yN s 2=tk at *;have bL:((tk++(aB s.log++aB s.place)).length:Int)=28:=by simp only[Δ,aH,h2];rfl
   have KQ:=Hd (Q.refl wr);clear a0 a1 b0' b1' b2' b3';rw[show s.log%4294967296=s.log by omega,show s.place%4294967296=s.place by omega] at HEN
   generalize s.log=lg at *;generalize s.place=pl at *;have l1:(aB lg).length=4:=rfl;have l2:(aB pl).length=4:=rfl;have D9:IntKind.u32.wrap (lg:Int)=(lg:Int):=by simp[IntKind.wrap,IntKind.bits,IntKind.signed];omega
   have L9:IntKind.u32.wrap (pl:Int)=(pl:Int):=by simp[IntKind.wrap,IntKind.bits,IntKind.signed];omega
   have cf1:=CF.out lg hl;have cf2:=CF.out pl hp;rw[←D9] at cf1;rw[←L9] at cf2;clear D9 L9;have CF1:=Hd cf1;have CF2:=Hd cf2;clear cf1 cf2;go_wp2_with fail;go_region_held3 (fun w'=>w'.cell? ⟨w.heap.size,2,none⟩=some (.int .i64 (lg:Nat))∧w'.cell? ⟨w.heap.size,3,none⟩=some (.int .i64 (pl:Nat)))
    (first|exact⟨e2,e3⟩|exact two ε e2 e3)
    (first
     | (go_at_call 160;with_reducible refine(CF1.out _).mono ?_;rintro e w3 ⟨rfl,q3⟩;have s':Q wr w3:=Q.trans ε q3;clear KQ;have KQ:=Hd s';clear s' q3)
     | (go_at_call 160;with_reducible refine(CF2.out _).mono ?_;rintro e w4 ⟨rfl,q4⟩;have s':Q wr w4:=Q.trans ε q4;clear KQ;have KQ:=Hd s';clear s' q4))
   all_goals
    have bX:(gN s).length=128:=nE s;have hze:(bg 100).length=100:=rfl;have amw:(tk++(aB lg++aB pl)).length=28:=U;simp only[bytes_append];generalize tk++(aB lg++aB pl)=tt at *;have HQ9:=Hd (HQ.out.trans (bJ.out.trans (show Q wr _ by repeat (first|with_reducible exact KQ.out|with_reducible apply Qs.dr|with_reducible apply Qs.al))))
    go_wp2_with fail;refine(CR.out _).mono ?_;rintro e w5 ⟨rfl,q5⟩;have jK:=Hd (HQ9.out.trans q5);clear q5;rw[HE.out];go_wp2_with fail;simp only[bytes_append];rw[HEN.out];go_wp2_with fail;go_ret;exact⟨by simp only[bytes_append];rfl,jK.out⟩
theorem af.mf(d:af):d.bw.1.p.length≤d.p.length:=by
 unfold af.bw;split
 ·exact Ω _
 ·split
  ·show d.bh.p.length≤_
   rw[(af.df d).2];exact Ω _
  ·exact L0 _
theorem af.j7(d:af)(h:d.bw.1.dead=false):d.dead=false:=by
 cases hd:d.dead with
 | false=>rfl
 | true=>unfold af.bw at h;rw[Φ hd] at h;rw[←hd,h]
theorem af.I3(d:af)(ws:List WrL):(d.lays ws).1.p.length≤d.p.length+ws.length:=by
 have h:=af.jz ws d;unfold af.lays;split
 ·have:=af.mf (d.writes ws).1;omega
 ·exact h
theorem af.uA(d:af)(ws:List WrL)(h:(d.lays ws).1.dead=false):d.dead=false:=by
 unfold af.lays at h;split at h
 ·exact af.hS ws d (af.j7 _ h)
 ·exact af.hS ws d h
theorem BU{w:World}{F:Nat→Prop}(x:WrL)(hF:¬F w.heap.size)(h1:x.1≤9223372036854775807)(h2:x.2.length≤9223372036854775807)(e:TypeId):eC (w.alloc (.cells #[.int .i64 (x.1:Nat),ah x.2] e)) F (.slice (some ⟨w.heap.size,0,none⟩) 1 1) [x]:=by
 refine⟨?_,fun y hy=>by rw[Mo] at hy;subst hy;exact⟨h1,h2⟩⟩
 have:=SlO.lit (w:=w) (F:=F) #[.int .i64 (x.1:Nat),ah x.2] e 1 2 rfl hF;exact this
theorem eC.drew{w:World}{F:Nat→Prop}{v:Value}{ws:List WrL}(h:eC w F v ws):eC w.drew F v ws:=⟨⟨h.sl.1.stays (Q.drew _),h.sl.2⟩,h.num⟩
theorem cG.step{A B C:World}{F:Nat→Prop}{p b:Nat}{j:JL}{d:af}(hb:Blk A p 216 (jd b j))(q:Q A B)(t:ae (fun k=>F k∧k≠p) B C)(hd:cF C (grow (fun k=>F k∧k≠p) B C) b d)(ay:∀k,F k→k<A.heap.size)(hp:F p):
  cG C (grow F A C) p b { j with d:=d }∧ae F A C:=by
 have hs:=q.size;have jm:=t.size;refine⟨⟨t.blk (hb.stays q) (fun hc=>hc.2 rfl),.inl hp,hd.mono (fun k hk=>?_),fun k hk=>?_⟩,(ae.br q).trans (t.mono (fun k hk=>hk.1))⟩
 ·rcases hk with hk|hk
  ·exact .inl hk.1
  ·exact .inr ⟨U,hk.2⟩
 ·rcases hk with hk|hk
  ·have:=ay k hk;omega
  ·exact hk.2
theorem Qw(w:World)(F:Nat→Prop)(p b:Nat)(j:JL)(h:cG w F p b j)(hn:fW j):
  Calls prog 201 #[au p] w fun e w'=>e=.returned (.int .i64 j.cz.2)∧cG w' (grow F w w') p b j.cz.1∧ae F w w':=by
 have Bh:=h.box;have xJ:=h.dev.minus Bh;have ay:=h.lt;have LM:=h.fp;have bW:=vZ w p b j 0 Bh hn.log hn.log2 hn.place hn.used U;have ade:j.place 0≤2000000:=by have:=(gG j.s (j.used+0) hn.log).2;have:=hn.log2;unfold JL.place;omega
 have zJ:=Hd bW;have HN:=Hd hn;have cno:=fun (W:World)=>yM W
 have CNO:=Hd cno;have cl1:=fun (W:World) (hq:Q w W)=>yD (W.alloc (.cells #[.int .i64 (j.place 0:Nat),ah ag] 134)) (fun k=>F k∧k≠p) p b j _ [(j.place 0,ag)] ((Bh.stays hq).alloc _) ((xJ.keep hq).keep (Q.alloc _ _)) hn.ok (fun hx=>by have:=hn.eJ hx;simp;omega) (BU (j.place 0,ag) (fun hc=>by have:=ay _ hc.1;have:=hq.size;omega) (by simp only;omega) (by rw[jk];omega) _) κ (fun hc=>hc.2 rfl)
 have CL1:=Hd cl1;have HB:=Hd Bh;have HD:=Hd xJ;have iI:=Hd ay;have LP:=Hd LM;have cO:j.d.lays [(j.place 0,ag)]=j.cM:=rfl;rw[cO] at CL1;have mg:j.cM.1.Ok:=af.dm hn.ok _;have Kq:=Hd mg;clear h hn bW cno cl1 Bh xJ ay LM cO mg;by_cases hz:j.cM.2=0
 ·have hb:(j.cM.2==0)=true:=MY.2 hz
  have hwe:IntKind.u64.wrap ((j.s.e:Int)+1)=(((j.s.e+1)%18446744073709551616:Nat):Int):=by simp[IntKind.wrap,IntKind.bits,IntKind.signed]
  have L9:IntKind.i64.wrap ((j.s.place:Int)+(j.used:Int))=((j.s.place+j.used:Nat):Int):=by have:=HN.out.place;have:=HN.out.used;rw[IntWalk.i64_in _ U];omega
  have uX:¬((j.s.log:Nat):Int)=0:=by have:=HN.out.log;omega
  have aii:¬j.s.log=0:=by have:=HN.out.log;omega
  have VF:(((j.s.place+j.used:Nat):Int)).tmod ((j.s.log:Nat):Int)=(((j.s.place+j.used)%j.s.log:Nat):Int):=ρ;have aas:IntKind.i64.wrap (((j.s.place+j.used)%j.s.log:Nat):Int)=(((j.s.place+j.used)%j.s.log:Nat):Int):=by have:=Sx (j.s.place+j.used) HN.out.log;have:=HN.out.log2;rw[IntWalk.i64_in _ U]
  generalize aij:j.place 0=pl0 at *;go_enter func201,ntmps201;go_wp2_with fail;refine zJ.out.mono ?_;rintro e w1 ⟨rfl,q1⟩;have dF:=Hd q1;clear q1;go_wp2_with fail;refine(CNO.out _).mono ?_;rintro e w2 ⟨rfl,q2⟩;have bJ:=Hd (dF.out.trans q2);clear q2;go_wp2_with fail;refine(CL1.out _ bJ.out).mono ?_;rintro e w3 ⟨rfl,h3,t3⟩;have aC:=cG.step HB.out (bJ.out.trans (Q.alloc _ _)) t3 h3 iI.out LP.out;obtain⟨c0,c1,c2,c3,c4,c5,c6,c7⟩:=aC.1.box.c8;have HE:=Hd aC;clear h3 t3 aC;go_wp2_with fail;go_region_held3 (fun w'=>w'.cell? ⟨p,1,none⟩=some (.int .u64 (j.s.e:Nat))∧w'.cell? ⟨p,3,none⟩=some (.int .i64 (j.s.log:Nat))∧w'.cell? ⟨p,4,none⟩=some (.int .i64 (j.s.place:Nat))∧w'.cell? ⟨p,6,none⟩=some (.int .u64 (j.next:Nat))∧w'.cell? ⟨p,7,none⟩=some (.int .i64 (j.used:Nat)))
   (first|exact⟨c1,c3,c4,c6,c7⟩|exact five (by repeat (first|with_reducible exact Q.refl _|with_reducible apply Qs.dr|with_reducible apply Qs.al|with_reducible refine Qs.st ?_ _ _ (Ω _))) c1 c3 c4 c6 c7)
   (fail)
  all_goals
   have he:(((j.s.e:Int)+1)%18446744073709551616)=((j.aE.e:Nat):Int):=by
    show(((j.s.e:Int)+1)%18446744073709551616)=(((j.s.e+1)%18446744073709551616:Nat):Int);omega
   have qH:(((j.s.place:Int)+(j.used:Int)).tmod (j.s.log:Int))=((j.aE.place:Nat):Int):=rfl;rw[he,qH];have cst:=fun (W:World)=>AR j.aE HN.out.pp W
   have sI:j.aE.s=j.next:=rfl;have wI:j.aE.log=j.s.log:=rfl;rw[sI,wI] at cst;have Sg:=Hd cst;have VG:Q w3 ((w3.alloc (.cells #[.int .u64 (j.aE.e:Nat),.int .u64 (j.next:Nat),.int .i64 (j.s.log:Nat),.int .i64 (j.aE.place:Nat)] 214)).drew):=Qs.dr (Qs.al (Q.refl _) _);have sN:Blk ((w3.alloc (.cells #[.int .u64 (j.aE.e:Nat),.int .u64 (j.next:Nat),.int .i64 (j.s.log:Nat),.int .i64 (j.aE.place:Nat)] 214)).drew) w3.heap.size 214 #[.int .u64 (j.aE.e:Nat),.int .u64 (j.next:Nat),.int .i64 (j.s.log:Nat),.int .i64 (j.aE.place:Nat)]:=Blk.new w3 _ _;generalize hV:(w3.alloc (.cells #[.int .u64 (j.aE.e:Nat),.int .u64 (j.next:Nat),.int .i64 (j.s.log:Nat),.int .i64 (j.aE.place:Nat)] 214)).drew=w4 at *;clear hV cst sI wI he qH;have d5:=aj VG c5;obtain⟨s0,s1,s2,s3,_⟩:=sN.c4;have Cz:IntKind.i64.wrap (1-(j.k:Int))=((1-j.k:Nat):Int):=by have:=HN.out.k;rw[IntWalk.i64_in _ U];omega
   have cl2:=fun (V:World) (hq:Q w4 V) (lv:Value) (ha:eC V (fun k=>grow F w w3 k∧k≠p) lv [(1-j.k,aQ j.aE)])=>yD V (fun k=>grow F w w3 k∧k≠p) p b { j with d:=j.cM.1 } lv [(1-j.k,aQ j.aE)] (HE.out.1.box.stays (VG.trans hq)) ((HE.out.1.dev.minus HE.out.1.box).keep (VG.trans hq)) Kq.out (fun hx=>by
    have h1:=HN.out.eJ (af.uA _ _ hx);have h2:=af.I3 j.d [(pl0,ag)];have h3:j.cM.1.p.length≤j.d.p.length+1:=by rw[←aij] at h2;exact h2
    show j.cM.1.p.length+1≤_;omega) ha κ (fun hc=>hc.2 rfl)
   have dI:({ j with d:=j.cM.1 }:JL).d.lays [(1-j.k,aQ j.aE)]=j.cW:=rfl;rw[dI] at cl2;have rT:=fun (V:World) (hq:Q w4 V)=>BU (w:=V) (F:=fun k=>grow F w w3 k∧k≠p) (1-j.k,aQ j.aE) (fun hc=>by have:=HE.out.1.lt _ hc.1;have:=VG.size;have:=hq.size;omega) (by simp only;omega) (by rw[gB];omega) 134
   have Zm:=Hd cl2;have zK:=Hd rT;have lH:=Hd VG;have VA:=Hd sN;have KK:=Hd (Q.refl w4);clear cl2 rT dI VG sN c0 c1 c2 c3 c4 c5 c6 c7 hwe L9 VF aas;generalize aQ j.aE=st at *;go_wp2_with fail;go_region_held3 (fun w'=>w'.cell? ⟨p,5,none⟩=some (.int .i64 (j.k:Nat))∧w'.cell? ⟨w3.heap.size,0,none⟩=some (.int .u64 (j.aE.e:Nat))∧w'.cell? ⟨w3.heap.size,1,none⟩=some (.int .u64 (j.next:Nat))∧w'.cell? ⟨w3.heap.size,2,none⟩=some (.int .i64 (j.s.log:Nat))∧w'.cell? ⟨w3.heap.size,3,none⟩=some (.int .i64 (j.aE.place:Nat)))
    (first|exact⟨g5,g0,g1,g2,g3⟩|exact⟨d5,s0,s1,s2,s3⟩|exact five ω d5 s0 s1 s2 s3)
    (first
     | (go_at_call 239;with_reducible refine(Sg.out _).mono ?_;rintro e w5 ⟨rfl,q5⟩;have s':Q w4 w5:=Q.trans ω q5;clear KK;have KK:=Hd s';clear s' q5)
     | (go_at_call 205;with_reducible refine(Zm.out _ (Qs.al KK.out _) _ (zK.out _ KK.out)).mono ?_;rintro e w6 ⟨rfl,h6,t6⟩;have g5:=t6.cell (aI (Qs.al KK.out _) d5) (fun hc=>absurd rfl hc.2);have pX:¬((fun k=>grow F w w3 k∧k≠p) w3.heap.size):=(fun hc=>by have:=HE.out.1.lt _ hc.1;omega);have g0:=t6.cell (aI (Qs.al KK.out _) s0) pX;have g1:=t6.cell (aI (Qs.al KK.out _) s1) pX;have g2:=t6.cell (aI (Qs.al KK.out _) s2) pX;have g3:=t6.cell (aI (Qs.al KK.out _) s3) pX;have Cn:=cG.step HE.out.1.box (lH.out.trans (Qs.al KK.out _)) t6 h6 HE.out.1.lt HE.out.1.fp;clear pX h6 t6;have RP:=Hd Cn;clear Cn))
   all_goals
    have Cn:=RP.out;have hT:=HE.out.2.step Cn.2;have hJ:cG w6 (grow F w w6) p b { j with d:=j.cW.1 }:=Cn.1.mono (fun k hk=>lZ HE.out.2.size Cn.2.size hk) (fun k hk=>hk.elim (fun hk=>by have:=iI.out k hk;have:=hT.size;omega) (fun hk=>hk.2))
    have HJ:=Hd hJ;have nW:=Hd hT;by_cases aW:j.cW.2=0
    ·have gL:j.cz=(⟨j.cW.1,j.aE,1-j.k,j.next,0⟩,0):=by unfold JL.cz;rw[η (by rw[hz];simp),η (by rw[aW];simp)]
     have Ea:=Hd gL;have bN:(j.cW.2==0)=true:=MY.2 aW;obtain⟨e0,e1,e2,e3,e4,e5,e6,e7⟩:=hJ.box.c8;have f1:=hJ.box.frozen 1;have f2:=hJ.box.frozen 2;have f3:=hJ.box.frozen 3;have f4:=hJ.box.frozen 4;have f5:=hJ.box.frozen 5;have f7:=hJ.box.frozen 7;clear Cn hT hJ gL RP d5 s0 s1 s2 s3;have bZ:Blk ((((((w6.setCell ⟨p,1,none⟩ (.int .u64 (j.aE.e:Nat))).setCell ⟨p,2,none⟩ (.int .u64 (j.next:Nat))).setCell ⟨p,3,none⟩ (.int .i64 (j.s.log:Nat))).setCell ⟨p,4,none⟩ (.int .i64 (j.aE.place:Nat))).setCell ⟨p,5,none⟩ (.int .i64 ((1-j.k:Nat):Int))).setCell ⟨p,7,none⟩ (.int .i64 0)) p 216 (jd b ⟨j.cW.1,j.aE,1-j.k,j.next,0⟩):=((((((HJ.out.box.set 1 (.int .u64 (j.aE.e:Nat))).set 2 (.int .u64 (j.next:Nat))).set 3 (.int .i64 (j.s.log:Nat))).set 4 (.int .i64 (j.aE.place:Nat))).set 5 (.int .i64 ((1-j.k:Nat):Int))).set 7 (.int .i64 0));have ht:ae (fun k=>k=p) w6 ((((((w6.setCell ⟨p,1,none⟩ (.int .u64 (j.aE.e:Nat))).setCell ⟨p,2,none⟩ (.int .u64 (j.next:Nat))).setCell ⟨p,3,none⟩ (.int .i64 (j.s.log:Nat))).setCell ⟨p,4,none⟩ (.int .i64 (j.aE.place:Nat))).setCell ⟨p,5,none⟩ (.int .i64 ((1-j.k:Nat):Int))).setCell ⟨p,7,none⟩ (.int .i64 0)):=(ae.setCell (a:=⟨p,7,none⟩) (ae.setCell (a:=⟨p,5,none⟩) (ae.setCell (a:=⟨p,4,none⟩) (ae.setCell (a:=⟨p,3,none⟩) (ae.setCell (a:=⟨p,2,none⟩) (ae.setCell (a:=⟨p,1,none⟩) (ae.refl (fun k=>k=p) w6) (.inl rfl) (.int .u64 (j.aE.e:Nat))) (.inl rfl) (.int .u64 (j.next:Nat))) (.inl rfl) (.int .i64 (j.s.log:Nat))) (.inl rfl) (.int .i64 (j.aE.place:Nat))) (.inl rfl) (.int .i64 ((1-j.k:Nat):Int))) (.inl rfl) (.int .i64 0))
     have bP:((((((w6.setCell ⟨p,1,none⟩ (.int .u64 (j.aE.e:Nat))).setCell ⟨p,2,none⟩ (.int .u64 (j.next:Nat))).setCell ⟨p,3,none⟩ (.int .i64 (j.s.log:Nat))).setCell ⟨p,4,none⟩ (.int .i64 (j.aE.place:Nat))).setCell ⟨p,5,none⟩ (.int .i64 ((1-j.k:Nat):Int))).setCell ⟨p,7,none⟩ (.int .i64 0)).heap.size=w6.heap.size:=by simp only[bO]
     have HV:=Hd (And.intro bZ (And.intro ht bP));clear bZ ht bP;go_wp2_with fail;go_region;all_goals
      generalize hV:((((((w6.setCell ⟨p,1,none⟩ (.int .u64 (j.aE.e:Nat))).setCell ⟨p,2,none⟩ (.int .u64 (j.next:Nat))).setCell ⟨p,3,none⟩ (.int .i64 (j.s.log:Nat))).setCell ⟨p,4,none⟩ (.int .i64 (j.aE.place:Nat))).setCell ⟨p,5,none⟩ (.int .i64 ((1-j.k:Nat):Int))).setCell ⟨p,7,none⟩ (.int .i64 0))=V at *;clear hV;go_wp2_with fail;go_ret;rw[Ea.out];obtain⟨bZ,ht,bP⟩:=HV.out;have qE:=(HJ.out.dev.minus HJ.out.box).beside ht (fun k hk e=>hk.2 e)
      have jm:V.drew.heap.size=V.heap.size:=rfl;refine⟨rfl,⟨bZ.stays (Q.drew _),.inl LP.out,(qE.mono (fun k hk=>hk.1.elim .inl (fun hk=>.inr ⟨hk.1,by rw[jm,bP];exact hk.2⟩))).keep (Q.drew _),fun k hk=>?_⟩,?_⟩
      ·rcases hk with hk|hk
       ·have h1:=iI.out k hk
        have h2:=nW.out.size;rw[jm,bP];omega
       ·exact hk.2
      ·exact(nW.out.trans (ht.mono (fun k hk=>by subst hk;exact LP.out))).q (Q.drew _)
    ·have gL:j.cz=({ j with d:=j.cW.1 },j.cW.2):=by unfold JL.cz;rw[η (by rw[hz];simp),Φ aW]
     have Ea:=Hd gL;have bN:(j.cW.2==0)=false:=Γ.2 aW;clear Cn hT hJ gL RP d5 s0 s1 s2 s3;go_wp2_with fail;go_ret;rw[Ea.out];exact⟨rfl,HJ.out,nW.out⟩
 ·have hb:(j.cM.2==0)=false:=Γ.2 hz
  have gL:j.cz=({ j with d:=j.cM.1 },j.cM.2):=by unfold JL.cz;rw[Φ hz]
  rw[gL];generalize j.cM=r1 at *;generalize j.place 0=pl0 at *;clear gL hz;go_enter func201,ntmps201;go_wp2_with fail;refine zJ.out.mono ?_;rintro e w1 ⟨rfl,q1⟩;have dF:=Hd q1;clear q1;go_wp2_with fail;refine(CNO.out _).mono ?_;rintro e w2 ⟨rfl,q2⟩;have bJ:=Hd (dF.out.trans q2);clear q2;go_wp2_with fail;refine(CL1.out _ bJ.out).mono ?_;rintro e w3 ⟨rfl,h3,t3⟩;have HE:=Hd (cG.step HB.out (bJ.out.trans (Q.alloc _ _)) t3 h3 iI.out LP.out);clear h3 t3;go_wp2_with fail;go_ret;exact⟨rfl,HE.out.1,HE.out.2⟩
end
end Go.Proofs.YtbkahhebmpehnaaGreatDoor
