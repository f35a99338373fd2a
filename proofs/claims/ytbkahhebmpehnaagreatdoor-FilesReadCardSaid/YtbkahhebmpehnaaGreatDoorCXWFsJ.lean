/- Joined: WFsJ to WFsR -/
import Derived.Test.YtbkahhebmpehnaaGreatDoorCXWFsE
set_option linter.all false
set_option maxRecDepth 100000
set_option maxHeartbeats 8000000
namespace Go.Proofs.YtbkahhebmpehnaaGreatDoor
open Go.Proofs.Tryz
section
open Go.RowKit
theorem Lr(a b:List (Nat×Nat)):∀σ:StL,(σ.bo a).2=0→σ.bo (a++b)=(σ.bo a).1.bo b:=by
 induction a with
 | nil=>intro σ _;rfl
 | cons x a ih =>
  intro σ h;rw[StL.bo] at h;by_cases hx:(σ.release x.1 x.2).2≠0
  ·rw[Φ hx] at h;exact absurd h hx
  ·rw[η hx] at h
   rw[Of,StL.bo,η hx,ih _ h,StL.bo,η hx]
structure kh (KI:Nat) (σ:StL) (fr:List (List WrL)) (C:Nat→Bytes) (x:List (Nat×Nat)):Prop where
 st:cg KI σ fr C
 op:σ.open_=true
 map:fO σ
 ok:∀e∈x,1≤e.2∧ak σ.n≤e.1∧e.1+e.2≤σ.n
 nodup:(aT x).Nodup
 on:∀i∈aT x,bit σ.ai i=true
theorem Gu(x:List (Nat×Nat))(k:Nat):(aT (x.take k)).Sublist (aT x):=by
 conv=>rhs;rw[←OR k x]
 unfold aT;rw[Sf];exact List.sublist_append_left _ _
theorem kh.take{KI:Nat}{σ:StL}{fr:List (List WrL)}{C:Nat→Bytes}{x:List (Nat×Nat)}(h:kh KI σ fr C x)(k:Nat):(σ.bo (x.take k)).2=0∧cg KI (σ.bo (x.take k)).1 fr C:=by
 obtain⟨a,_,c,_⟩:=I9 (x.take k) h.st h.op h.map (fun e he=>h.ok e (P3 he)) (h.nodup.sublist (Gu x k)) (fun i hi=>h.on i ((Gu x k).subset hi))
 exact⟨a,c⟩
theorem kh.run{KI:Nat}{σ:StL}{fr:List (List WrL)}{C:Nat→Bytes}{x:List (Nat×Nat)}(h:kh KI σ fr C x)(hK:KI<18446744073709551616)(k:Nat)(hk:k<x.length):
  iL (σ.bo (x.take k)).1∧((σ.bo (x.take k)).1.release (x[k].1:Nat) (x[k].2:Nat)).2=0∧σ.bo (x.take (k+1))=(((σ.bo (x.take k)).1.release (x[k].1:Nat) (x[k].2:Nat)).1,0):=by
 obtain⟨a0,a1⟩:=h.take k;obtain⟨b0,_⟩:=h.take (k+1);rw[Mb hk,Lr _ _ _ a0,StL.bo] at b0 ⊢;by_cases hx:((σ.bo (x.take k)).1.release (x[k].1:Nat) (x[k].2:Nat)).2≠0
 ·rw[Φ hx] at b0;exact absurd b0 hx
 ·rw[η hx]
  rw[abw] at hx;exact⟨a1.num hK,hx,rfl⟩
theorem FsK.seq{w W w2:World}{F G:Nat→Prop}{fb sb b:Nat}{φ:FsL}{K:Nat}{v:Value}(hg:∀k,G k→grow F w W k)(t:ae (own F fb) w W)(h:FsK W w2 G fb sb b φ K v):FsK w w2 F fb sb b φ K v:=by
 obtain⟨H,h1,h2,h3⟩:=h;have hs:=t.size;have jm:=h3.size;refine⟨H,h1,fun k hk=>?_,⟨h3.os.trans t.os,h3.tape.trans t.tape,h3.output.trans t.output,LS hs jm,fun k hk hn=>?_⟩⟩
 ·rcases h2 k hk with hk|hk
  ·exact(hg k hk).imp id fun hk=>⟨hk.1,U⟩
  ·exact .inr ⟨U,hk.2⟩
 ·refine(h3.block k U (fun hc=>?_)).trans (t.block k hk hn)
  rcases hc with hc|hc
  ·rcases hg k hc with hc|hc
   ·exact hn (.inl hc)
   ·omega
  ·exact hn (.inr hc)
theorem FsG.K0{w w':World}{F H:Nat→Prop}{fb sb b:Nat}{φ:FsL}{K K':Nat}{v:Value}{σ':StL}{P:Ending→Prop}{f:FuncId}{av:Array Value}(h1:FsG w' H fb sb b φ K v)(h2:∀k,H k→grow F w w' k)(h3:ae (own F fb) w w')
  (hc:Calls prog f av w' fun e w2=>P e∧ce w2 (grow H w' w2) sb b σ' K'∧ae H w' w2):Calls prog f av w' fun e w2=>P e∧FsK w w2 F fb sb b { φ with st:=σ' } K' v∧ae H w' w2 :=
 hc.mono fun e w2 hr=>⟨hr.1,FsK.seq h2 h3 ⟨_,h1.call hr.2.1 hr.2.2,fun k hk=>hk,hr.2.2.mono fun k hk=>.inl hk⟩,hr.2.2⟩
theorem FsK.t{w W:World}{F:Nat→Prop}{fb sb b:Nat}{φ:FsL}{K:Nat}{v:Value}(h:FsK w W F fb sb b φ K v):ae (own F fb) w W:=by
 obtain⟨_,_,_,h3⟩:=h;exact h3
theorem Gv(W:World)(G:Nat→Prop)(fb sb b:Nat)(φ:FsL)(K:Nat)(v:Value)(f:ax)(av:Value){KI:Nat}{fr:List (List WrL)}{C:Nat→Bytes}(hG:FsG W G fb sb b φ K v)(ha:SlP (fun k=>¬own G fb k) W av f.ext.length 2 (ext f.ext))(hl:f.ext.length≤16)(hr:kh KI φ.st fr C f.ext)(gM:KI<18446744073709551616)(hK:K+40≤1000000000000000000):
  Calls prog 93 #[au fb,oN f av] W fun e w'=>e=.returned (.int .i64 0)∧FsK W w' G fb sb b { φ with st:=(φ.st.bo f.ext).1 } (K+32) v:=by
 obtain⟨wa,dO⟩:∃wa,wa=W.alloc (.cells #[ah f.name,.bool f.sl,.int .i64 (f.size:Nat),av] 48):=⟨_,rfl⟩;have qa:Q W wa:=by rw[dO];exact Q.alloc _ _
 have bZ:Blk wa W.heap.size 48 #[ah f.name,.bool f.sl,.int .i64 (f.size:Nat),av]:=by rw[dO];exact Blk.new W _ _
 have bX:=ha.bh (ae.br (own:=fun _=>False) qa) (fun _ _ x=>x)
 obtain⟨ea,ec,rfl,_⟩:=jS bX.1;have dP:∀wr,ae (own G fb) wa wr→∀k (hk:k<f.ext.length),∃eb eo,ea=some ⟨eb,eo,none⟩∧wr.cell? ⟨eb,eo+k*2,none⟩=some (.int .i64 (f.ext[k].1:Nat))∧wr.cell? ⟨eb,eo+k*2+1,none⟩=some (.int .i64 (f.ext[k].2:Nat)):=fun wr t k hk=>by
  obtain⟨a',c',e,hc⟩:=jS (bX.bh t (fun k hk=>hk)).1
  simp only[Value.slice.injEq,aeN] at e;obtain⟨eb,eo,e2,hc⟩:=hc U;rw[←e.1] at e2;exact⟨eb,eo,e2,hc k hk⟩
 have h0:FsK wa wa G fb sb b { φ with st:=(φ.st.bo (f.ext.take 0)).1 } (K+0) v:=FsK.of (hG.keep qa);have nP:=fun k hk=>hr.run gM k hk
 have dK:(φ.st.bo (f.ext.take f.ext.length)).1=(φ.st.bo f.ext).1:=by rw[M1]
 have hend:∀X,FsK wa X G fb sb b { φ with st:=(φ.st.bo f.ext).1 } (K+32) v→FsK W X G fb sb b { φ with st:=(φ.st.bo f.ext).1 } (K+32) v:=fun X hX=>hX.seq (fun k hk=>.inl hk) (ae.br qa)
 obtain⟨d0,d1,d2,d3,_⟩:=bZ.c4;have H0:=Hd h0;have lu:=Hd dP;have TH:=Hd nP;have Dy:=Hd hend;have nT:=Hd dK;clear h0 dP nP hend dK bX ha hG hr bZ d0 d1 d2;obtain⟨fn,fsl,fsz,x⟩:=f;simp only[] at *;go_enter func93,ntmps93;go_upto_region 1 with fail;rw[←dO];clear dO qa;go_wp2_with fail;go_loopw [11] (fun i wr=>∃k:Nat,i=.int .i64 (k:Nat)∧k≤x.length∧Hid (FsK wa wr G fb sb b { φ with st:=(φ.st.bo (x.take k)).1 } (K+2*k) v)) (fun i _=>x.length-(intOf i).toNat)
 case atStart=>exact⟨0,rfl,L0 _,H0⟩
 case round =>
  obtain⟨k,rfl,hk,HK⟩:=hrel;by_cases ay:k<x.length
  ·have bq:(k:Int)<(x.length:Int):=U
   have lT:(0:Int)≤(k:Int):=U;obtain⟨eb,eo,rfl,c0,c1⟩:=lu.out wr HK.out.t k ay;obtain⟨r1,r2,r3⟩:=TH.out k ay;obtain⟨H,h1,h2,h3⟩:=HK.out;have hrel:∀X,Q wr X→Calls prog 165 #[au sb,.int .i64 (x[k].1:Nat),.int .i64 (x[k].2:Nat)] X fun e w'=>e=.returned (.int .i64 0)∧FsK wa w' G fb sb b { φ with st:=(φ.st.bo (x.take (k+1))).1 } (K+2*(k+1)) v∧ae H X w':=fun X q=>by
    rw[r3];exact FsG.K0 (φ:=⟨(φ.st.bo (x.take k)).1,φ.l,φ.packed⟩) (h1.keep q) (fun k hk=>(h2 k hk).imp id fun hk=>⟨hk.1,Ψ hk.2 q.size⟩) (h3.trans (ae.br q)) ((Qv X H sb b _ (K+2*k) _ _ (h1.keep q).st r1 U).mono fun e w' hx=>⟨by rw[←r2];exact hx.1,hx.2⟩)
   have hnH:¬H wr.heap.size:=fun hc=>by have:=h1.st.lt _ hc;omega
   have hnf:¬H fb:=h1.nb;obtain⟨b0,_⟩:=h1.box.c4;have aeh:=Hd hrel;clear h1 h2 h3 HK;clear hrel r1 r2 r3;generalize x[k]=y at *;obtain⟨y1,y2⟩:=y;simp only[] at c0 c1 aeh;go_wp2_with fail;obtain⟨wx,BG⟩:∃wx,wx=wr.alloc (.cells #[.int .i64 (y1:Nat),.int .i64 (y2:Nat)] 87):=⟨_,rfl⟩;have qx:Q wr wx:=by rw[BG];exact Q.alloc _ _
   have JB:Blk wx wr.heap.size 87 #[.int .i64 (y1:Nat),.int .i64 (y2:Nat)]:=by rw[BG];exact Blk.new wr _ _
   obtain⟨p0,p1,_⟩:=JB.c2;replace b0:=aj qx b0;rw[←BG];have QX:=Hd qx;clear BG JB c0 c1 qx;have KK:=Hd (Q.refl wx);have b0d:=aj (Q.drew wx) b0;have p0d:=aj (Q.drew wx) p0;have p1d:=aj (Q.drew wx) p1
   (go_region_held3 (fun w'=>w'.cell? ⟨fb,0,none⟩=some (au sb)∧w'.cell? ⟨wr.heap.size,0,none⟩=some (.int .i64 (y1:Nat))∧w'.cell? ⟨wr.heap.size,1,none⟩=some (.int .i64 (y2:Nat)))
    (first|exact g0|exact⟨b0,p0,p1⟩|exact three δ b0 p0 p1)
    (first
     | (go_at_call 165;with_reducible refine(aeh.out wx.drew (QX.out.trans (Q.drew wx))).mono ?_;rintro e w5 ⟨rfl,h5,t5⟩;have g0:=And.intro (t5.cell b0d hnf) (And.intro (t5.cell p0d hnH) (t5.cell p1d hnH));have H5:=Hd h5;clear h5 t5)))
   all_goals
    go_wp2_with fail;exact⟨⟨k+1,by go_num,U,H5⟩,by simp[intOf];omega⟩
  ·obtain rfl:k=x.length:=U
   have bq:¬(x.length:Int)<(x.length:Int):=U;have kW:=HK.out;rw[nT.out] at kW;have ZU:=Hd (Dy.out _ (kW.mono U));clear kW HK;go_wp2_with fail;go_ret;exact⟨rfl,ZU.out⟩
end
section
open Go.RowKit
section
variable {KI:Nat} {φ:FsL} {fr:List (List WrL)} {C:Nat→Bytes}
theorem bz.Ks(h:bz KI φ fr C)(f:ax)(hf:f∈φ.l):kh KI φ.st.begin.1 fr C f.ext:=by
 obtain⟨ht,h0,h1⟩:=h.start;have ny:fO φ.st.begin.1:=by unfold fO;rw[h0];simp
 have hn:=fq ht.j;have ho:=h.good.ok.ok f hf;have oZ:∀i∈aT f.ext,i∈fD φ.l:=fun i hi=>Pi.2 ⟨f,hf,hi⟩
 exact⟨ht.st,ht.op,ny,fun x hx=>by have:=ho.ext x hx;rw[hn];omega,h.good.ok.apart.sublist (by have:=tH (ab9.2 hf);rwa [show fD [f]=aT f.ext from NF _] at this),fun i hi=>by
  have hr:=h.good.ok.mem (oZ i hi);rw[h1];exact(h.eM i U hr.2).2 (.inr (oZ i hi))⟩
theorem bz.pM(h:bz KI φ fr C)(f:ax)(hf:f∈φ.l):eE KI (φ.st.begin.1.bo f.ext).1 fr C∧(φ.st.begin.1.bo f.ext).2=0∧(φ.st.begin.1.bo f.ext).1.n=φ.st.n:=by
 obtain⟨a,b,c,d⟩:=Dk h f hf;refine⟨h.J1 b (LS (qY b.st c) Z) (fun i hi=>?_),a,fq b.j⟩
 rw[d,η]
 ·exact h.low _ U
 ·intro hc
  have:=(h.good.ok.mem (Pi.2 ⟨f,hf,hc⟩)).1;omega
end
section
variable {w W X:World} {F G:Nat→Prop} {fb sb b:Nat} {φ:FsL} {K:Nat} {v:Value}
theorem FsG.file(h:FsG W G fb sb b φ K v)(i:Nat)(hi:i<φ.l.length):∃g off cap av,v=.slice (some ⟨g,off,none⟩) φ.l.length cap∧SlP (fun k=>¬own G fb k) W av φ.l[i].ext.length 2 (ext φ.l[i].ext)∧¬own G fb g ∧
  W.cell? ⟨g,off+i*4,none⟩=some (ah φ.l[i].name)∧W.cell? ⟨g,off+i*4+1,none⟩=some (.bool φ.l[i].sl)∧W.cell? ⟨g,off+i*4+2,none⟩=some (.int .i64 (φ.l[i].size:Nat))∧W.cell? ⟨g,off+i*4+3,none⟩=some av:=by
 obtain⟨vs,h1,h2,h3⟩:=h.files;obtain⟨⟨_,a,cap,rfl,hc⟩,hp⟩:=h2;obtain⟨g,off,rfl,hd⟩:=hc U;obtain⟨e0,e1,e2,e3⟩:=wm vs φ.l i hi h1;exact⟨g,off,cap,vs[i]' U,rfl,h3 i _ _ (LN U) (LN hi),hp U g off cap rfl,hd _ _ e0,hd _ _ e1,hd _ _ e2,hd _ _ e3⟩
end
theorem qf{w w':World}(q:Q w w'){a0 a1 a2 a3 a4 a5 a6:Addr}{v0 v1 v2 v3 v4 v5 v6:Value}(h0:w.cell? a0=some v0)(h1:w.cell? a1=some v1)(h2:w.cell? a2=some v2)(h3:w.cell? a3=some v3)(h4:w.cell? a4=some v4)(h5:w.cell? a5=some v5)(h6:w.cell? a6=some v6):
  w'.cell? a0=some v0∧w'.cell? a1=some v1∧w'.cell? a2=some v2∧w'.cell? a3=some v3∧w'.cell? a4=some v4∧w'.cell? a5=some v5∧w'.cell? a6=some v6:=⟨aj q h0,aj q h1,aj q h2,aj q h3,aj q h4,aj q h5,aj q h6⟩
theorem Rb(w W:World)(F:Nat→Prop)(fb sb b:Nat)(φ:FsL)(K:Nat)(v:Value)(i:Nat)(hi:i<φ.l.length){KI first:Nat}{fr:List (List WrL)}{C:Nat→Bytes}(h:FsK w W F fb sb b φ K v)(hl:φ.l.length≤1000)(hx:φ.l[i].ext.length≤16)(hr:kh KI φ.st fr C φ.l[i].ext)
  (hd:cN first (φ.st.bo φ.l[i].ext).1.n (φ.l.eraseIdx i)) (hs:eE KI (φ.st.bo φ.l[i].ext).1 fr C) (gM:KI<18446744073709551616) (hp:φ.packed=[]∨φ.packed.length=3072) (hK:K+60≤1000000000000000000) :
  Calls prog 50 #[.agg #[au fb,.int .i64 (i:Nat)]] W fun e w'=>e=.returned (.int .i64 ((φ.st.bo φ.l[i].ext).1.dir φ.packed (φ.l.eraseIdx i)).2)∧FsR w w' F fb sb b (FsL.wr { φ with st:=(φ.st.bo φ.l[i].ext).1 } (φ.l.eraseIdx i)) (K+44):=by
 obtain⟨G,hG,h2,h3⟩:=h;obtain⟨wa,dO⟩:∃wa,wa=W.alloc (.cells #[au fb,.int .i64 (i:Nat)] 100):=⟨_,rfl⟩;have qa:Q W wa:=by rw[dO];exact Q.alloc _ _
 have bZ:Blk wa W.heap.size 100 #[au fb,.int .i64 (i:Nat)]:=by rw[dO];exact Blk.new W _ _
 have ay:=hG.fi;have pX:¬own G fb W.heap.size:=fun hc=>by have:=ay _ hc;omega
 have Mw:=hG.keep qa;obtain⟨g,off,cap,av,rfl,wR,FN,k0,k1,k2,k3⟩:=Mw.file i hi;obtain⟨_,_,c2,_⟩:=Mw.box.c4;obtain⟨d0,d1,_⟩:=bZ.c2;obtain⟨σ1,hσ⟩:∃σ,σ=(φ.st.bo φ.l[i].ext).1:=⟨_,rfl⟩;have vw:Calls prog 93 #[au fb,oN φ.l[i] av] wa.drew fun e w1=>e=.returned (.int .i64 0)∧FsK wa w1 G fb sb b { φ with st:=σ1 } (K+32) (.slice (some ⟨g,off,none⟩) φ.l.length cap)∧ae (own G fb) wa w1:=by
  rw[hσ];refine(Gv wa.drew G fb sb b φ K _ φ.l[i] av (Mw.keep (Q.drew wa)) (wR.bh (ae.br (own:=fun _=>False) (Q.drew wa)) (fun _ _ x=>x)) hx hr gM U).mono fun e w1 hh=>?_
  have:=FsK.seq (fun k hk=>.inl hk) (ae.br (Q.drew wa)) hh.2
  exact⟨hh.1,this,this.t⟩
 rw[←hσ] at hd hs ⊢;have jB:∀w1,FsK wa w1 G fb sb b { φ with st:=σ1 } (K+32) (.slice (some ⟨g,off,none⟩) φ.l.length cap)→∃G1,FsG w1 G1 fb sb b { φ with st:=σ1 } (K+32) (.slice (some ⟨g,off,none⟩) φ.l.length cap)∧¬own G1 fb W.heap.size ∧
   ∀(X:World) (lv:Value),Q w1 X→ci (fun k=>¬own G1 fb k) X lv (φ.l.eraseIdx i)→Calls prog 71 #[au fb,lv] X fun e w'=>e=.returned (.int .i64 (σ1.dir φ.packed (φ.l.eraseIdx i)).2)∧FsR w w' F fb sb b (FsL.wr { φ with st:=σ1 } (φ.l.eraseIdx i)) (K+44)∧ae (own G1 fb) X w':=fun w1 hk=>by
  obtain⟨G1,g1,g2,g3⟩:=FsK.seq (F:=F) (w:=w) (fun k hk=>(h2 k hk).imp id fun hk=>⟨hk.1,Ψ hk.2 qa.size⟩) (h3.trans (ae.br qa)) hk
  obtain⟨G2,g4,g5,g6⟩:=hk;refine⟨G2,g4,fun hc=>?_,fun X lv q lI=>?_⟩
  ·rcases hc with hc|hc
   ·rcases g5 _ hc with hc|hc
    ·exact pX (.inl hc)
    ·have:=bZ.lt;omega
   ·exact pX (.inr hc)
  ·exact(Aw X G2 fb sb b { φ with st:=σ1 } (K+32) _ lv (φ.l.eraseIdx i) (g4.keep q) lI hd hs gM hp U).mono fun e w' hh=>⟨hh.1,FsR.seq (fun k hk=>(h2 k hk).imp id fun hk=>⟨hk.1,Ψ hk.2 qa.size⟩) (h3.trans (ae.br qa)) (FsR.seq (fun k hk=>(g5 k hk).imp id fun hk=>⟨hk.1,Ψ hk.2 q.size⟩) (g6.trans (ae.br q)) hh.2),by obtain⟨H,_,_,t⟩:=hh.2;exact t⟩
 have CX:(i:Int)<(φ.l.length:Int):=U;have qL:(0:Int)≤(i:Int):=U;have hnf:wa.heap.size=W.heap.size+1:=by rw[dO,World.size_alloc]
 have FK:=Hd vw;have vC:=Hd jB;have FI:=Hd pX;have rW:=Hd FN;clear vw jB pX FN hG Mw h2 h3 wR bZ ay hd hs hr hx;generalize (σ1.dir φ.packed (φ.l.eraseIdx i)).2=res at *;generalize hψ:FsL.wr { φ with st:=σ1 } (φ.l.eraseIdx i)=ψ at *;clear hψ hσ;have eH:=aj (Q.drew wa) d0;have hb1:=aj (Q.drew wa) d1;go_enter func50,ntmps50;go_wp2_with fail;rw[←dO];clear dO;unfold oN at FK
 (go_region_held3 (fun w'=>w'.cell? ⟨W.heap.size,0,none⟩=some (au fb)∧w'.cell? ⟨W.heap.size,1,none⟩=some (.int .i64 (i:Nat))∧w'.cell? ⟨g,off+i*4,none⟩=some (ah φ.l[i].name)∧w'.cell? ⟨g,off+i*4+1,none⟩=some (.bool φ.l[i].sl)∧w'.cell? ⟨g,off+i*4+2,none⟩=some (.int .i64 (φ.l[i].size:Nat))∧w'.cell? ⟨g,off+i*4+3,none⟩=some av∧w'.cell? ⟨fb,2,none⟩=some (.slice (some ⟨g,off,none⟩) φ.l.length cap))
  (first|exact g0|exact⟨d0,d1,k0,k1,k2,k3,c2⟩)
  (first
   | (go_at_call 93;refine FK.out.mono ?_;rintro e w3 ⟨rfl,h5,t5⟩;have g0:=And.intro (t5.cell d0 FI.out) (And.intro (t5.cell d1 FI.out) (And.intro (t5.cell k0 rW.out) (And.intro (t5.cell k1 rW.out) (And.intro (t5.cell k2 rW.out) (And.intro (t5.cell k3 rW.out) h5.cells.2.2.1)))));have H5:=Hd h5;clear h5 t5)))
 clear d0 d1 k0 k1 k2 k3 c2 FK rW FI eH hb1;obtain⟨d0,d1,_,_,_,_,c2⟩:=g0;obtain⟨G1,TK,aei,jB⟩:=vC.out w3 H5.out;have bL:Calls prog 37 #[.slice (some ⟨g,off,none⟩) φ.l.length cap] w3.drew fun e w'=>∃v',e=.returned v'∧Hid (cE (Pw G1 fb w3) w' w3.heap.size v' φ.l)∧Q w3 w':=(TK.jp hl (Q.drew w3)).mono fun e w' hh=>by
  obtain⟨v',r1,r2,r3⟩:=hh;exact⟨v',r1,Hd (r2.low (Q.drew w3).size),(Q.drew w3).trans r3⟩
 have Cu:∀X v0,Q w3 X→cE (Pw G1 fb w3) X w3.heap.size v0 φ.l→Calls prog 92 #[v0,.int .i64 (i:Nat),.int .i64 ((i:Int)+1)] X fun e w'=>∃v',e=.returned v'∧Hid (ci (fun k=>¬own G1 fb k) w' v' (φ.l.eraseIdx i))∧Q w3 w':=fun X v0 q hw=>(Dm hw (fun k hk=>hk.2) hl i hi).mono fun e w' hh=>by
  obtain⟨v',r1,_,r3,r4⟩:=hh;exact⟨v',r1,Hd (r3.own TK (Ω _)),r4.below q q.size (fun k hk=>(hw.lt k hk).1)⟩
 have p8:=Hd bL;have TM:=Hd Cu;have Ms:=Hd jB;have fZ:=Hd aei;have eO:IntKind.i64.wrap ((i:Int)+1)=(i:Int)+1:=IntWalk.i64_in _ U;clear bL Cu jB TK aei vC H5;have c2d:=aj (Q.drew w3) c2;go_wp2_with fail;have rU:=fun X (q:Q w3 X)=>aj q d0
 have Bu:=fun X (q:Q w3 X)=>aj q d1
 have HD0:=Hd rU;have HD1:=Hd Bu;have d0d:=rU _ (Q.drew w3);have d1d:=Bu _ (Q.drew w3);clear rU Bu
 (go_region_law (first
   | (go_simp;go_at_call 37;refine p8.out.mono ?_;rintro e w4 ⟨v1,rfl,F1,s'⟩;have y0:=HD0.out _ s';have y1:=HD1.out _ s';have K4:=Hd s')
   | (go_simp;go_at_call 92;refine(TM.out _ v1 K4.out F1.out).mono ?_;rintro e w5 ⟨v2,rfl,F2,s5⟩;have z0:=HD0.out _ s5;have K5:=Hd s5)
   | (go_simp;go_at_call 71;refine(Ms.out _ _ K5.out F2.out).mono ?_;rintro e w6 ⟨rfl,f3,t3⟩;have F3:=Hd f3;clear f3 t3)))
 all_goals
  go_wp2_with fail;go_ret;exact⟨rfl,F3.out⟩
end
section
open Go.RowKit
theorem Dn(w:World)(F:Nat→Prop)(fb sb b:Nat)(φ:FsL)(K:Nat)(v:Value)(r:StL→TxR)(g:FuncId)(x:Value)(σ1:StL)(l':List ax){KI:Nat}{fr:List (List WrL)}{C:Nat→Bytes}(h:FsG w F fb sb b φ K v)(gM:KI+4<18446744073709551616)(hs:eE KI σ1 fr C)
  (eg:∀(args:Array Value) (w:World),(callFunc g args).run prog w=.ok (.enter g args) w) (hr:r φ.st.begin.1=qm φ σ1 l')
  (hw:∀W,FsK w W F fb sb b { φ with st:=φ.st.begin.1 } K v→Calls prog g #[x] W fun e w'=>e=.returned (.int .i64 (σ1.dir φ.packed l').2)∧FsR w w' F fb sb b (FsL.wr { φ with st:=σ1 } l') (K+100)) :
  Calls prog 30 #[au fb,.func (.func g) #[x] #[]] w fun e w'=>e=.returned (.int .i64 (φ.cq r).2)∧FsR w w' F fb sb b (φ.cq r).1 (K+100):=by
 have ha:=hs.after φ.packed l';refine Gt w F fb sb b φ (FsL.wr { φ with st:=σ1 } l') K (K+100) v r g x h U eg ?_ (fun _=>⟨cg.num (K:=KI) ha U,Ap (K:=KI) ha gM⟩) (fun _ W hW=>?_)
 ·rw[hr]
  refine⟨rfl,fun he=>?_⟩
  have hc:=hs.code φ.packed l';have he:(σ1.dir φ.packed l').2=0:=he;rw[hc] at he;cases hf:iA l' with
  | false=>rw[hf] at he;exact absurd he Z
  | true=>unfold FsL.wr;rw[hf];exact⟨rfl,rfl⟩
 ·rw[hr];exact hw W hW
theorem Gw(w:World)(F:Nat→Prop)(fb sb b:Nat)(φ:FsL)(K:Nat)(v:Value)(s:Bytes)(h:FsG w F fb sb b φ K v)(hI:FOk φ)(hK:K+200≤1000000000000000000):
  Calls prog 24 #[au fb,ah s] w fun e w'=>e=.returned (.int .i64 (φ.delete s).2)∧FsR w w' F fb sb b (φ.delete s).1 (K+100):=by
 have eP:=wB s h hI.find;have hk:∀W,Q w W→FsR w W F fb sb b φ (K+100):=fun W q=>(((FsK.of h).q q).mono U).r
 have hc:φ.delete s=if φ.dj s≠0 then(φ,φ.dj s) else φ.cq (rZ φ (aA φ.l s) (φ.at9 s)):=rfl
 have pF:φ.dj s=if φ.st.dead then 4 else if isF φ.l s then 0 else 10:=rfl
 have jV:φ.st.dead=false→isF φ.l s=true→∀W,Q w W→Calls prog 30 #[au fb,.func (.func 50) #[.agg #[au fb,.int .i64 (aA φ.l s:Nat)]] #[]] W fun e w'=>e=.returned (.int .i64 (φ.cq (rZ φ (aA φ.l s) (φ.at9 s))).2)∧FsR w w' F fb sb b (φ.cq (rZ φ (aA φ.l s) (φ.at9 s))).1 (K+100):=fun h1 h2 W q=>by
  rcases hI with hd|⟨_,KI,fr,C,hI,gM⟩
  ·rw[h1] at hd;cases hd
  ·have hlen:=hI.len
   obtain⟨hp,_⟩:=zo h2;rw[DV φ s hp];have eF:=LO hp;obtain⟨hs,hz,hn⟩:=hI.pM _ eF;have YJ:=(hI.good.ok.ok _ eF).few;refine(Dn W F fb sb b φ K v (rZ φ (aA φ.l s) φ.l[aA φ.l s]) _ _ (φ.st.begin.1.bo φ.l[aA φ.l s].ext).1 (φ.l.eraseIdx (aA φ.l s)) (h.keep q) gM hs (enters_of func50 (by kernel_rfl) rfl) (by unfold rZ;rw[η (by simpa using hz)]) (fun X hX=>?_)).mono fun e w' hx=>⟨hx.1,FsR.seq (fun k hk=>.inl hk) (ae.br q) hx.2⟩
   exact(Rb W X F fb sb b { φ with st:=φ.st.begin.1 } K v (aA φ.l s) hp hX (LS hlen Z) YJ (first:=ak φ.st.n+12) (hI.Ks _ eF) (by rw[hn];exact hI.good.ok.erase _) hs U (.inr hI.eJ) U).mono fun e w' hx=>⟨hx.1,hx.2.mono U⟩
 rw[hc,pF];have iW:=Hd eP;have HK:=Hd hk;have xP:=Hd jV;clear eP hk hc jV h hI pF;generalize hD:φ.cq (rZ φ (aA φ.l s) (φ.at9 s))=D at *;clear hD;generalize φ.st.dead=dd at *;generalize isF φ.l s=isf at *;generalize aA φ.l s=pl at *;go_enter func24,ntmps24;go_wp2_with fail;refine iW.out.mono ?_;rintro e w1 ⟨rfl,q1⟩;have Q1:=Hd q1;clear q1;cases dd
 ·cases isf
  ·simp only[M2,ON,PM]
   go_wp2_with fail;go_ret;exact⟨rfl,HK.out _ Q1.out⟩
  ·simp only[M2,ON,PM]
   have jV:=xP.out (by first|trivial|rfl) (by first|trivial|rfl) _ Q1.out
   have HD:=Hd jV;clear jV;go_wp2_with fail;refine HD.out.mono ?_;rintro e w3 ⟨rfl,h3⟩;have H3:=Hd h3;clear h3;go_wp2_with fail;go_ret;exact⟨rfl,H3.out⟩
 ·simp only[PM]
  go_wp2_with fail;go_ret;exact⟨rfl,HK.out _ Q1.out⟩
theorem xe:(prog.info? 3).map (fun i=>(i.zero,i.size,i.bytes))=some (some (.int .i64 0),1,8):=by kernel_rfl
theorem rN(x:List (Nat×Nat))(k:Nat)(h:k<x.length):aT (x.take (k+1))=aT (x.take k)++List.range' x[k].1 x[k].2:=by
 rw[Mb h,yP,show aT [x[k]]=List.range' x[k].1 x[k].2 from A8 _ _]
theorem Dp(W:World)(f:ax)(av:Value)(ha:Sl W av f.ext.length 2 (ext f.ext))(hl:f.ext.length≤1000)(he:∀e∈f.ext,e.1+e.2≤100000)(hb:(aT f.ext).length≤100000):
  Calls prog 74 #[oN f av] W fun e w'=>∃v,e=.returned v∧w'.ownsRow W.heap.size 3 1 v (aT f.ext).length ((aT f.ext).map dX)∧Q W w':=by
 obtain⟨i0,hi,bY,bB,aW⟩:=info_parts xe;obtain⟨wa,dO⟩:∃wa,wa=W.alloc (.cells #[ah f.name,.bool f.sl,.int .i64 (f.size:Nat),av] 48):=⟨_,rfl⟩;have qa:Q W wa:=by rw[dO];exact Q.alloc _ _
 have bZ:Blk wa W.heap.size 48 #[ah f.name,.bool f.sl,.int .i64 (f.size:Nat),av]:=by rw[dO];exact Blk.new W _ _
 have bX:=ha.stays qa;obtain⟨ea,ec,rfl,aC⟩:=jS bX;obtain⟨d0,d1,d2,d3,_⟩:=bZ.c4;have nA:=rN f.ext;have fT:=fun k=>(Gu f.ext k).length_le
 have eX:=fun (k:Nat) (hk:k<f.ext.length)=>he _ (LO hk)
 have aX:=Hd aC;have CQ:=Hd nA;have uN:=Hd fT;have kI:=Hd eX;have QA:=Hd qa;clear aC nA fT eX qa bX ha bZ d0 d1 d2 he;obtain⟨fn,fsl,fsz,x⟩:=f;simp only[] at *;go_enter func74,ntmps74;go_upto_region 1 with fail;rw[←dO];clear dO;go_wp2_with fail;go_loopw [3,10] (fun v i wr=>∃k:Nat,i=.int .i64 (k:Nat)∧k≤x.length∧Hid (wr.ownsRow wa.heap.size 3 1 v (aT (x.take k)).length ((aT (x.take k)).map dX))∧Hid (Q wa wr)) (fun _ i _=>x.length-(intOf i).toNat)
 case atStart=>exact⟨0,rfl,L0 _,Hd (World.ownsRow_nil _ _ _ _),Hd (Q.refl _)⟩
 case round =>
  obtain⟨k,rfl,hk,HO,HQ⟩:=hrel;obtain⟨wo,rfl⟩:∃wo:World,wo=wr:=⟨_,rfl⟩;by_cases ay:k<x.length
  ·have bq:(k:Int)<(x.length:Int):=U
   have lT:(0:Int)≤(k:Int):=U;obtain⟨eb,eo,rfl,hc⟩:=aX.out U;obtain⟨c0,c1⟩:=hc k ay;replace c0:=aj HQ.out c0;replace c1:=aj HQ.out c1;have nA:=CQ.out k ay;have fT:=uN.out (k+1);have eX:=kI.out k ay;obtain⟨wx,BG⟩:∃wx,wx=wo.alloc (.cells #[.int .i64 (x[k].1:Nat),.int .i64 (x[k].2:Nat)] 87):=⟨_,rfl⟩;have qx:Q wo wx:=by rw[BG];exact Q.alloc _ _
   have JB:Blk wx wo.heap.size 87 #[.int .i64 (x[k].1:Nat),.int .i64 (x[k].2:Nat)]:=by rw[BG];exact Blk.new wo _ _
   obtain⟨p0,p1,_⟩:=JB.c2;have HOX:=Hd (ownsRow_below HO.out qx);have HQX:=Hd (HQ.out.trans qx);have Ah:=Hd (And.intro ay (And.intro nA fT));rw[nA,Δ,WF] at fT;have qz:(aT (x.take k)).length+x[k].2≤100000:=U;have Ju:=Hd JB;have Bj:=Hd qz;have HEK:=Hd eX;clear hc nA fT eX qx JB qz hk;generalize x[k]=y at *;obtain⟨y1,y2⟩:=y;simp only[] at c0 c1 p0 p1 BG Ah Bj HEK Ju;generalize aT (x.take k)=pre at *;have hy2:y2≤100000:=by have:=Bj.out;omega
   go_upto_region 5 with fail;rw[←BG];clear BG c0 c1;go_wp2_with fail;go_loopw [3,16] (fun v i wr=>∃j:Nat,i=.int .i64 (j:Nat)∧j≤y2∧Hid (wr.ownsRow wa.heap.size 3 1 v (pre.length+j) (pre.map dX++(List.range' y1 j).map dX))∧Hid (Q wa wr)∧Hid (Blk wr wo.heap.size 87 #[.int .i64 (y1:Nat),.int .i64 (y2:Nat)])) (fun _ i _=>y2-(intOf i).toNat)
   case atStart=>exact⟨0,rfl,L0 _,Hd (by rw[UI,List.range'_zero,VC,NF];exact HOX.out),HQX,Ju⟩
   case round =>
    obtain⟨j,rfl,hj,Pn,Po,HBJ⟩:=hrel;obtain⟨wi,rfl⟩:∃wi:World,wi=wr:=⟨_,rfl⟩;by_cases FP:j<y2
    ·have ZV:(j:Int)<(y2:Int):=U
     have e1:IntKind.i64.wrap ((y1:Int)+(j:Int))=(y1:Int)+(j:Int):=by have:=HEK.out;exact IntWalk.i64_in _ U
     have q0:=HBJ.out.c2.1;have qc:=Q.alloc wi (.cells #[.int .i64 ((y1:Int)+(j:Int))] 3);have kr:=Sl.lit wi #[.int .i64 ((y1:Int)+(j:Int))] 3 1 1 rfl;have H1:Hid (∀u∈[Value.int .i64 ((y1:Int)+(j:Int))],u.oneCell'=true):=Hd (by intro u hu;simp at hu;subst hu;rfl)
     have H2:Hid (pre.length+j+1≤maxLen):=Hd (by have:=Bj.out;unfold maxLen;omega)
     have H3:Hid ((pre.length+j+1)*8≤140737488355328):=Hd (by have:=Bj.out;omega)
     have H4:Hid (wa.heap.size≤(wi.alloc (.cells #[.int .i64 ((y1:Int)+(j:Int))] 3)).heap.size):=Hd ((Po.out.trans qc).size);have V7:=Hd (ownsRow_below Pn.out qc);have HQC:=Hd (Po.out.trans qc);have ZW:=Hd kr;have HBC:=Hd (HBJ.out.stays qc);clear qc kr;go_wp2_with (at_builtin;refine fM (wi.alloc (.cells #[.int .i64 ((y1:Int)+(j:Int))] 3)) ρ _ _ 51 ρ wa.heap.size 3 i0 (.int .i64 0) 1 8 underlying51 hi bY bB aW rfl Z _ _ _ ρ V7.out _ 1 _ ρ ZW.out H1.out H2.out H3.out H4.out ?_)
     intro v' w4 Cq lV _;have lH:=Hd (Below.grown HQC.out lV H4.out (fun j hj=>(V7.out.lt j hj).1))
     have VA:=Hd (oI HBC.out V7.out lV Z);have Pf:=Hd Cq;clear Cq lV;go_wp2_with fail;go_roundw;case rel=>exact⟨j+1,by go_num,FP,Hd (by rw[←Ps,ad2,N5];exact Pf.out),lH,VA⟩
     case measure=>simp[intOf];omega
    ·obtain rfl:j=y2:=U
     have ZV:¬(j:Int)<(j:Int):=U;have HOF:=Hd Pn.out;go_wp2_with fail;go_roundw;case rel=>exact⟨k+1,by go_num,Ah.out.1,Hd (by rw[Ah.out.2.1,Δ,WF,N5];exact HOF.out),Po⟩
     case measure=>have:=Ah.out.1;simp[intOf];omega
  ·obtain rfl:k=x.length:=U
   have bq:¬(x.length:Int)<(x.length:Int):=U;have ho:=HO.out;rw[M1] at ho;have Ht:=Hd (gT ho QA.out.size);have bJ:=Hd (QA.out.trans HQ.out);clear ho;go_wp2_with fail;go_ret;exact⟨_,rfl,Ht.out,bJ.out⟩
theorem ce.hlen{w:World}{F:Nat→Prop}{sb b:Nat}{σ:StL}{K:Nat}(h:ce w F sb b σ K):Calls prog 41 #[au b] w fun e w'=>e=.returned (.int .i64 (σ.n:Nat))∧w=w':=by
 obtain⟨FJ,FC,p,cb,tb,most,clock,ms,mb,m,ti,hg,_⟩:=h;exact oL w FJ b σ.j.d hg.jr.dev
theorem aam(w:World)(F:Nat→Prop)(fb sb b:Nat)(φ:FsL)(K:Nat)(v:Value)(h:FsG w F fb sb b φ K v)(hn:iL φ.st):
  Calls prog 18 #[au fb] w fun e w'=>e=.returned (.int .i64 (φ.free:Nat))∧Q w w':=by
 have hf:=h.st.hfree hn;obtain⟨c0,_⟩:=h.box.c4;have HF:=Hd hf;clear hf h;show Calls _ _ _ _ fun e w'=>e=.returned (.int .i64 (φ.st.free:Nat))∧Q w w'
 generalize φ.st.free=fr at *;go_enter func18,ntmps18;go_wp2_with fail;refine HF.out.mono ?_;rintro e w1 ⟨rfl,q1⟩;have Q1:=Hd q1;clear q1;go_wp2_with fail;go_ret;exact⟨rfl,Q1.out⟩
theorem N9(w:World)(F:Nat→Prop)(fb sb b:Nat)(φ:FsL)(K:Nat)(v:Value)(h:FsG w F fb sb b φ K v)(hn:iL φ.st)(qp:φ.st.free+ak φ.st.n≤φ.st.n):
  Calls prog 17 #[au fb] w fun e w'=>e=.returned (.int .i64 (φ.used:Nat))∧Q w w':=by
 have iH:=hn.max;have hf:=fun X (q:Q w X)=>(h.st.keep q).hfree hn
 have eP:=fun X (q:Q w X)=>(h.st.keep q).lA iH
 have hb:=fun X (q:Q w X)=>(h.st.keep q).hlen
 obtain⟨c0,c1,_⟩:=h.box.c4;have hu:(φ.used:Int)=(φ.st.n:Int)-(ak φ.st.n:Int)-(φ.st.free:Int):=by unfold FsL.used;omega
 have e1:IntKind.i64.wrap ((φ.st.n:Int)-(ak φ.st.n:Int))=(φ.st.n:Int)-(ak φ.st.n:Int):=IntWalk.i64_in _ U;have e2:IntKind.i64.wrap ((φ.st.n:Int)-(ak φ.st.n:Int)-(φ.st.free:Int))=(φ.st.n:Int)-(ak φ.st.n:Int)-(φ.st.free:Int):=IntWalk.i64_in _ U;rw[hu];have HF:=Hd hf;have iW:=Hd eP;have HB:=Hd hb;clear hf eP hb h hu hn qp iH;generalize φ.st.free=fr at *;generalize ak φ.st.n=fs at *;generalize φ.st.n=n at *;go_enter func17,ntmps17;go_wp2_with fail;have KK:=Hd (Q.refl w)
 (go_region_held3 (fun w'=>w'.cell? ⟨fb,0,none⟩=some (au sb)∧w'.cell? ⟨fb,1,none⟩=some (au b))
  (first|exact⟨c0,c1⟩|exact two δ c0 c1)
  (first
   | (go_at_call 41;with_reducible refine(HB.out _ ω).mono ?_;rintro e w3 ⟨rfl,rfl⟩)
   | (go_at_call 39;with_reducible refine(iW.out _ ω).mono ?_;rintro e w3 ⟨rfl,rfl⟩)
   | (go_at_call 45;with_reducible refine(HF.out _ ω).mono ?_;rintro e w3 ⟨rfl,q3⟩;have s':Q w w3:=Q.trans ω q3;clear KK;have KK:=Hd s';clear s' q3)))
 all_goals
  go_wp2_with fail;go_ret;exact⟨rfl,KK.out⟩
end
section
open Go.RowKit
def RdS(w0 w:World)(G:Nat→Prop)(fb sb b:Nat)(φ:FsL)(K:Nat)(v:Value)(B:Nat)(l:Bytes):Prop :=
 ∃(G1:Nat→Prop) (r:Option Nat),FsG w G1 fb sb b φ K v∧(∀k,G1 k→grow G w0 w k)∧Bld w w0.heap.size B r l∧¬own G1 fb B∧(∀k,r=some k→¬own G1 fb k)∧ae (own G fb) w0 w∧ci (fun k=>¬own G fb k) w0 v φ.l
section
variable {w0 w w':World} {G:Nat→Prop} {fb sb b:Nat} {φ:FsL} {K:Nat} {v:Value} {B:Nat} {l:Bytes}
theorem RdS.t(h:RdS w0 w G fb sb b φ K v B l):ae (own G fb) w0 w:=by
 obtain⟨G1,r,h1,h2,h3,h4,h5,h6,h7⟩:=h;exact h6
theorem RdS.k(h:RdS w0 w G fb sb b φ K v B l):FsK w0 w G fb sb b φ K v:=by
 obtain⟨G1,r,h1,h2,h3,h4,h5,h6,h7⟩:=h;exact⟨G1,h1,h2,h6⟩
theorem RdS.q(h:RdS w0 w G fb sb b φ K v B l)(q:Q w w'):RdS w0 w' G fb sb b φ K v B l:=by
 obtain⟨G1,r,h1,h2,h3,h4,h5,h6,h7⟩:=h;exact⟨G1,r,h1.keep q,fun k hk=>(h2 k hk).imp id fun hk=>⟨hk.1,Ψ hk.2 q.size⟩,h3.stays (q.block _ h3.lt) (fun k hk=>q.block _ (h3.row k hk).2) q.size,h4,h5,h6.trans (ae.br q),h7⟩
theorem RdS.new(h:FsG w G fb sb b φ K v):RdS w (w.alloc (.cells #[.pointer none,.slice none 0 0] 139)) G fb sb b φ K v w.heap.size []:=by
 have q:=Q.alloc w (.cells #[.pointer none,.slice none 0 0] 139);have hb:¬own G fb w.heap.size:=fun hc=>by have:=h.fi _ hc;omega
 exact⟨G,none,h.keep q,fun k hk=>.inl hk,Bld.new w _ (Ω _),hb,fun k hk=>by simp at hk,ae.br q,h.files⟩
theorem RdS.read(h:RdS w0 w G fb sb b φ K v B l)(i:Int)(hn:iL φ.st)(hK:K≤1000000000000000000):
  Calls prog 78 #[au sb,.int .i64 i] w fun e w'=>e=.returned (.tuple #[ah (φ.st.read i).1,.int .i64 (φ.st.read i).2])∧RdS w0 w' G fb sb b φ (K+1) v B l:=by
 obtain⟨G1,r,h1,h2,h3,h4,h5,h6,h7⟩:=h;refine(ue w G1 sb b φ.st K i h1.st hn hK).mono fun e w' hx=>⟨hx.1,?_⟩
 have t:=hx.2.2;have bP:=t.size;have h6s:=h6.size;have hlB:=h3.lt;have JJ:=h1.call hx.2.1 t;refine⟨_,r,JJ,fun k hk=>?_,h3.stays (t.block _ h3.lt (fun hc=>h4 (.inl hc))) (fun k hk=>t.block _ (h3.row k hk).2 (fun hc=>h5 k hk (.inl hc))) bP,fun hc=>?_,fun k hk hc=>?_,?_,h7⟩
 ·rcases hk with hk|hk
  ·exact(h2 k hk).imp id fun hk=>⟨hk.1,U⟩
  ·exact .inr ⟨U,hk.2⟩
 ·rcases hc with (hc|hc)|hc
  ·exact h4 (.inl hc)
  ·omega
  ·exact h4 (.inr hc)
 ·have:=(h3.row k hk).2
  rcases hc with (hc|hc)|hc
  ·exact h5 k hk (.inl hc)
  ·omega
  ·exact h5 k hk (.inr hc)
 ·refine⟨t.os.trans h6.os,t.tape.trans h6.tape,t.output.trans h6.output,U,fun k hk hn=>(t.block k U (fun hc=>?_)).trans (h6.block k hk hn)⟩
  rcases h2 k hc with hc|hc
  ·exact hn (.inl hc)
  ·omega
theorem RdS.write(h:RdS w0 w G fb sb b φ K v B l)(s:Bytes)(hl:l.length+s.length≤140737488355328):Calls prog 79 #[.pointer (some ⟨B,0,none⟩),.string ⟨s.toArray⟩] w fun e w' =>
  e=.returned (.tuple #[.int .i64 s.length,.nilIface])∧RdS w0 w' G fb sb b φ K v B (l++s):=by
 obtain⟨G1,r,h1,h2,h3,h4,h5,h6,h7⟩:=h;refine(xA _ B r l s w h3 hl h6.size).mono ?_;rintro e w' ⟨rfl,hs,r',h3',hf⟩;refine⟨rfl,?_⟩;have bP:=hs.size;have t:ae (fun k=>k=B∨some k=r) w w':=⟨hs.os,hs.tape,hs.output,hs.size,fun k hk hn=>hs.block k hk (fun e=>hn (.inl e)) (fun e=>hn (.inr e))⟩
 have hd:∀k,own G1 fb k→¬(k=B∨some k=r):=fun k hk hc=>hc.elim (fun e=>h4 (e▸hk)) (fun e=>h5 k e.symm hk)
 have hq:=h3.below hs h6.size;have h8:ae (own G fb) w0 w':=⟨hs.os.trans h6.os,hs.tape.trans h6.tape,hs.output.trans h6.output,by have:=h6.size;omega,fun k hk hn=>(hq.block k hk).trans (h6.block k hk hn)⟩
 have h9:∀k,G1 k→grow G w0 w' k:=fun k hk=>(h2 k hk).imp id fun hk=>⟨hk.1,U⟩
 refine⟨G1,r',⟨h1.st.beside t (fun k hk=>hd k (.inl hk)),t.blk h1.box (hd fb (.inr rfl)),h1.nb,FsG.moved h9 h8 h7⟩,h9,h3',h4,fun k hk hc=>?_,h8,h7⟩
 rcases hf with e|⟨g,e,hg⟩
 ·exact h5 k (by rw[←e];exact hk) hc
 ·rw[e] at hk
  have:=h1.fi k hc;cases hk;omega
theorem RdS.str(h:RdS w0 w G fb sb b φ K v B l):Calls prog 80 #[.pointer (some ⟨B,0,none⟩)] w fun e w'=>e=.returned (ah l)∧FsK w0 w' G fb sb b φ K v:=by
 have hk:=h.k;obtain⟨G1,r,h1,h2,h3,h4,h5,h6,h7⟩:=h;cases l with
 | nil=>exact(Ll w0.heap.size B r w h3).mono fun e w' ⟨x1,x2⟩=>⟨x1,hk.q x2⟩
 | cons y l =>
  refine(Jb w0.heap.size B r (y::l) w h3 κ).mono ?_;rintro e w' ⟨rfl,hs,_⟩;have bP:=hs.size;have t:ae (fun k=>k=B∨some k=r) w w':=⟨hs.os,hs.tape,hs.output,hs.size,fun k hk hn=>hs.block k hk (fun e=>hn (.inl e)) (fun e=>hn (.inr e))⟩
  have hd:∀k,own G1 fb k→¬(k=B∨some k=r):=fun k hk hc=>hc.elim (fun e=>h4 (e▸hk)) (fun e=>h5 k e.symm hk)
  have hq:=h3.below hs h6.size;have h8:ae (own G fb) w0 w':=⟨hs.os.trans h6.os,hs.tape.trans h6.tape,hs.output.trans h6.output,by have:=h6.size;omega,fun k hk hn=>(hq.block k hk).trans (h6.block k hk hn)⟩
  have h9:∀k,G1 k→grow G w0 w' k:=fun k hk=>(h2 k hk).imp id fun hk=>⟨hk.1,U⟩
  exact⟨rfl,G1,⟨h1.st.beside t (fun k hk=>hd k (.inl hk)),t.blk h1.box (hd fb (.inr rfl)),h1.nb,FsG.moved h9 h8 h7⟩,h9,h8⟩
end
end
section
open Go.RowKit
theorem pg(g:Nat→Bytes)(bs:List Nat):∀(q r k:Nat) (hq:q<bs.length),(∀i∈bs,(g i).length=256)→r+k≤256→((bs.flatMap g).drop (256*q+r)).take k=((g bs[q]).drop r).take k:=by
 induction bs with
 | nil=>intro q r k hq;simp at hq
 | cons b bs ih =>
  intro q r k hq hg hr;have hb:=hg b (Mu ..);rw[NO];cases q with
  | zero =>
   rw[acI,On,acJ U,P0 (by rw[L5];omega)]
   rfl
  | succ q =>
   rw[Zs,Wk U,N0,hb,show 256*(q+1)+r-256=256*q+r by omega]
   exact ih q r k (by simpa using hq) (fun i hi=>hg i (Mn _ hi)) hr
theorem sC(g:Nat→Bytes)(bs:List Nat)(a m k:Nat)(hq:(a+m) / 256<bs.length)(hg:∀i∈bs,(g i).length=256)(hr:(a+m)%256+k≤256):((bs.flatMap g).drop a).take m++((g bs[(a+m) / 256]).drop ((a+m)%256)).take k=((bs.flatMap g).drop a).take (m+k):=by
 have h:=pg g bs ((a+m) / 256) ((a+m)%256) k hq hg hr;rw[Nat.div_add_mod] at h;rw[←h,aeb,N6]
theorem Oa(W:World)(G:Nat→Prop)(fb sb b:Nat)(φ:FsL)(K:Nat)(v:Value)(f:ax)(av:Value)(a n:Nat)(hG:FsG W G fb sb b φ K v)(ha:SlP (fun k=>¬own G fb k) W av f.ext.length 2 (ext f.ext))(hn:iL φ.st)(hd:φ.st.dead=false)(hl:f.ext.length≤1000)(he:∀e∈f.ext,e.1+e.2≤100000)(hb:(aT f.ext).length≤100000)
  (dZ:∀i∈aT f.ext,φ.st.cQ (i:Nat)=true∧(φ.st.get i).length=256) (han:a+n≤256*(aT f.ext).length) (hK:K+n+2≤1000000000000000000) :
  Calls prog 36 #[au fb,oN f av,.int .i64 (a:Nat),.int .i64 (n:Nat)] W fun e w'=>e=.returned (.tuple #[ah ((((aT f.ext).flatMap φ.st.get).drop a).take n),.int .i64 0])∧FsK W w' G fb sb b φ (K+n) v:=by
 obtain⟨wa,dO⟩:∃wa,wa=W.alloc (.cells #[ah f.name,.bool f.sl,.int .i64 (f.size:Nat),av] 48):=⟨_,rfl⟩;have qa:Q W wa:=by rw[dO];exact Q.alloc _ _
 have bZ:Blk wa W.heap.size 48 #[ah f.name,.bool f.sl,.int .i64 (f.size:Nat),av]:=by rw[dO];exact Blk.new W _ _
 have hblk:=Dp wa f av (ha.1.stays qa) hl he hb;have nM:∀w1,Q wa w1→RdS w1 (w1.alloc (.cells #[.pointer none,.slice none 0 0] 139)) G fb sb b φ K v w1.heap.size []:=fun w1 q=>RdS.new (hG.keep (qa.trans q))
 have dK:∀w1 w2,Q wa w1→FsK w1 w2 G fb sb b φ (K+n) v→FsK W w2 G fb sb b φ (K+n) v:=fun w1 w2 q h=>FsK.seq (fun k hk=>.inl hk) (ae.br (qa.trans q)) h
 have aF:=hG.fi;have dz:∀i∈aT f.ext,φ.st.read (i:Nat)=(φ.st.get i,0):=fun i hi=>by unfold StL.read;rw[hd,(dZ i hi).1];rfl
 have kU:=sC φ.st.get (aT f.ext) a;have Pp:=fun i hi=>(dZ i hi).2
 obtain⟨d0,d1,d2,d3,_⟩:=bZ.c4;obtain⟨aa,an,ac,rfl⟩:=ha.value;have aiI:=Hd hblk;have vU:=Hd nM;have nT:=Hd dK;have aiJ:=Hd aF;have iO:=Hd dz;have aX:=Hd kU;have V8:=Hd Pp;have HN:=Hd hn;have zH:=Hd qa;clear hblk nM dK aF dz kU Pp hn hG ha bZ dZ hd he qa;obtain⟨fn,fsl,fsz,x⟩:=f;simp only[] at *;generalize aT x=bs at *;generalize hD:bs.flatMap φ.st.get=D at *;have e1:IntKind.i64.wrap ((a:Int)+(n:Int))=(a:Int)+(n:Int):=IntWalk.i64_in _ U;unfold oN;go_enter func36,ntmps36;go_upto_region 1 with fail;rw[←dO];clear dO;go_wp2_with fail;refine aiI.out.mono ?_;rintro e w1 ⟨lv,rfl,ho,q1⟩;have lI:=aY ho;obtain⟨la,lc,rfl,om⟩:=lI;have hRD:=vU.out w1 q1;have aP:∀wr,ae (own G fb) w1 wr→∀k (hk:k<bs.length),∃g,la=some ⟨g,0,none⟩∧wr.cell? ⟨g,k,none⟩=some (.int .i64 (bs[k]:Nat)):=fun wr t k hk=>by
  obtain⟨g,rfl⟩:=om U;have ay:=ho.lt g rfl;refine⟨g,rfl,t.cell ?_ (fun hc=>by have h9:own G fb g:=hc;have:=aiJ.out _ h9;have:=zH.out.size;have:=ay.1;omega)⟩
  rw[ho.cellAt k U,SR,LN hk];rfl
 have ab4:=Hd aP;have Q1:=Hd q1;have aiK:=Hd hRD;clear aP ho om q1 hRD d0 d1 d2 d3;go_wp2_with fail;go_loopw [12] (fun i wr=>∃m:Nat,i=.int .i64 ((a+m:Nat):Int)∧m≤n∧Hid (RdS w1 wr G fb sb b φ (K+m) v w1.heap.size ((D.drop a).take m))) (fun i _=>a+n-(intOf i).toNat)
 case atStart=>exact⟨0,rfl,L0 _,by rw[R0];exact aiK⟩
 case round =>
  obtain⟨m,rfl,hm,HR⟩:=hrel;by_cases ay:m<n
  ·have bq:((a+m:Nat):Int)<(a:Int)+(n:Int):=U
   have hq:(a+m) / 256<bs.length:=U;obtain⟨g,rfl,c1⟩:=ab4.out wr HR.out.t _ hq;obtain⟨c0,_⟩:=HR.out.k.cells;have eF:bs[(a+m) / 256]∈bs:=LO hq;have dz:=fun (X:World) (q:Q wr X)=>(HR.out.q q).read (bs[(a+m) / 256]:Nat) HN.out U
   rw[iO.out _ eF] at dz;simp only[] at dz;have ht:=V8.out _ eF;obtain⟨r,hr⟩:∃r,r=(a+m)%256:=⟨_,rfl⟩;obtain⟨k,hk⟩:∃k,k=min 256 (r+(n-m))-r:=⟨_,rfl⟩;have pW:r<256:=U;have Bv:0<k:=U;have kW:r+k≤256:=U;have rH:m+k≤n:=U;have aC:=aX.out m k hq V8.out U;rw[←hr] at aC;generalize Eb:φ.st.get bs[(a+m) / 256]=t at *;clear Eb;have jB:=fun (w5:World) (h5:RdS w1 w5 G fb sb b φ (K+m+1) v w1.heap.size ((D.drop a).take m))=>h5.write ((t.drop r).take k) (by simp only[L4,L5];omega)
   rw[aC] at jB;have hlen:((t.drop r).take k).length=k:=by rw[L4,L5];omega
   have Cx:∀w5,RdS w1 w5 G fb sb b φ (K+m+1) v w1.heap.size ((D.drop a).take m)→w5.cell? ⟨fb,0,none⟩=some (au sb)∧w5.cell? ⟨g,(a+m) / 256,none⟩=some (.int .i64 (bs[(a+m) / 256]:Nat)):=fun w5 h5=>by
    obtain⟨g',e,c⟩:=ab4.out w5 h5.t _ hq;simp only[M3,Addr.mk.injEq,and_true] at e;rw[e];exact⟨h5.k.cells.1,c⟩
   have x1:({ data:=t.toArray }:ByteArray).extract r (r+k)=⟨((t.drop r).take k).toArray⟩:=by rw[eY,Nat.add_sub_cancel_left]
   generalize bs[(a+m) / 256]=bi at *;have f1:((a+m:Nat):Int).tdiv 256=(((a+m) / 256:Nat):Int):=rfl;have f2:((a+m:Nat):Int).tmod 256=(r:Int):=by rw[hr];rfl
   generalize (a+m) / 256=q at *;obtain⟨fr,dQ⟩:∃fr,fr=a+m:=⟨_,rfl⟩;have M6:fr+k=a+(m+k):=U;rw[←dQ] at f1 f2 bq;have f3:IntKind.i64.wrap ((r:Int)+(a:Int))=(r:Int)+(a:Int):=IntWalk.i64_in _ U;have f4:IntKind.i64.wrap ((r:Int)+(a:Int)+(n:Int))=(r:Int)+(a:Int)+(n:Int):=IntWalk.i64_in _ U;have f5:IntKind.i64.wrap ((r:Int)+(a:Int)+(n:Int)-(fr:Int))=(r:Int)+(a:Int)+(n:Int)-(fr:Int):=IntWalk.i64_in _ U;have f6:min (256:Int) ((r:Int)+(a:Int)+(n:Int)-(fr:Int))=((r+k:Nat):Int):=U;have f7:(0:Int)≤(q:Int):=U;have f8:(q:Int)<(bs.length:Int):=U;have f9:IntKind.i64.wrap ((fr:Int)+(k:Int))=((fr+k:Nat):Int):=by rw[IntWalk.i64_in _ U];omega
   have f10:IntKind.i64.wrap (q:Int)=(q:Int):=IntWalk.i64_in _ U;have f11:IntKind.i64.wrap (r:Int)=(r:Int):=IntWalk.i64_in _ U;have f12:fr=a+m:=dQ;rw[←dQ];have VN:=Hd M6;have Sv:=Hd f12;clear dQ M6 f12 hr hk;have aiL:=Hd dz;have vC:=Hd jB;have Hg:=Hd Cx;have Zh:=Hd (And.intro Bv (And.intro rH hm));have Ct:=Hd HR.out;clear dz jB Cx aC eF HR hD;have c0d:=aj (Q.drew wr) c0;have c1d:=aj (Q.drew wr) c1;have KK:=Hd (Q.refl wr);go_wp2_with fail
   (go_region_held3 (fun w'=>w'.cell? ⟨fb,0,none⟩=some (au sb)∧w'.cell? ⟨g,q,none⟩=some (.int .i64 (bi:Nat)))
    (first|exact g0|exact⟨c0,c1⟩|exact⟨c0d,c1d⟩)
    (first
     | (go_at_call 78;refine(aiL.out wr.drew (Q.drew wr)).mono ?_;rintro e w5 ⟨rfl,h5⟩;have g0:=Hg.out w5 h5;have H5:=Hd h5;clear h5)))
   all_goals
    have RB:=vC.out w5 H5.out;have HWW:=Hd RB;clear RB;go_wp2_with fail;refine HWW.out.mono ?_;rintro e w6 ⟨rfl,h6⟩;have H6:=Hd h6;clear h6 g0;go_wp2_with fail;have h6:=H6.out;obtain⟨g1,g2,g3⟩:=Zh.out;have g4:=VN.out;have g5:=Sv.out;refine⟨⟨m+k,by rw[←g4];go_num,g2,Hd ?_⟩,by simp[intOf];omega⟩
    obtain⟨G1,r1,y1,y2,y3,y4,y5,y6,y7⟩:=h6;exact⟨G1,r1,⟨y1.st.mono (fun _ x=>x) y1.st.lt U,y1.box,y1.nb,y1.files⟩,y2,y3,y4,y5,y6,y7⟩
  ·obtain rfl:m=n:=U
   have bq:¬((a+m:Nat):Int)<(a:Int)+(m:Int):=U;have hs:=HR.out.str;have HS:=Hd hs;clear hs HR;go_wp2_with fail;refine HS.out.mono ?_;rintro e w3 ⟨rfl,h3⟩;have H3:=Hd (nT.out _ _ Q1.out h3);clear h3;go_wp2_with fail;go_returns;exact⟨rfl,H3.out⟩
end
section
open Go.RowKit
theorem Bc(x:List (Nat×Nat))(h:∀e∈x,e.2≤4096):(aT x).length≤4096*x.length:=by
 induction x with
 | nil=>exact L0 _
 | cons e x ih =>
  have h1:=h e (Mu ..);have h2:=ih (fun y hy=>h y (Mn _ hy))
  unfold aT at *;rw[NO,Δ,WF,Θ];omega
section
variable {KI:Nat} {φ:FsL} {fr:List (List WrL)} {C:Nat→Bytes}
theorem bz.blk(h:bz KI φ fr C)(f:ax)(hf:f∈φ.l):∀i∈aT f.ext,φ.st.cQ (i:Nat)=true∧(φ.st.get i).length=256:=fun i hi=>by
 have hm:=h.good.ok.mem (Pi.2 ⟨f,hf,hi⟩)
 have lK:63≤ak φ.st.n:=by unfold ak;omega
 refine⟨?_,?_⟩
 ·unfold StL.cQ;simp;omega
 ·rw[h.st.get i U hm.2]
  exact nz (fun i h1 h2=>h.st.len i h1 h2) (fun w hw=>(h.st.ic w hw).2.2) i U hm.2
theorem bz.exts(h:bz KI φ fr C)(f:ax)(hf:f∈φ.l):f.ext.length≤16∧(∀e∈f.ext,e.1+e.2≤100000)∧(aT f.ext).length≤100000∧f.size≤256*(aT f.ext).length∧f.size≤2147483647:=by
 have ho:=h.good.ok.ok f hf;have iH:=h.st.max;have hlen:=Bc f.ext (fun e he=>by have:=ho.ext e he;omega)
 have vM:=ho.few;have Cc:=ho.need;refine⟨ho.few,fun e he=>by have:=ho.ext e he;omega,U,?_,ho.size⟩
 have:(aT f.ext).length=cB f.size:=Cc;unfold cB at this;omega
end
theorem yk(g:Nat→Bytes)(f:ax)(a n:Nat)(hn:n≤f.size-a):(((aT f.ext).flatMap g).drop a).take n=((cont g f).drop a).take n:=by
 show _=((((aT f.ext).flatMap g).take f.size).drop a).take n;rw[Ys,aby,RE hn]
theorem Jh(w:World)(F:Nat→Prop)(fb sb b:Nat)(φ:FsL)(K:Nat)(v:Value)(s:Bytes)(a n:Int)(h:FsG w F fb sb b φ K v)(hI:FOk φ)(hK:K+3000000000≤1000000000000000000)(ha : -9223372036854775808≤a∧a≤9223372036854775807):
  Calls prog 14 #[au fb,ah s,.int .i64 a,.int .i64 n] w fun e w'=>e=.returned (.tuple #[ah (φ.cC s a n).1,.int .i64 (φ.cC s a n).2])∧FsR w w' F fb sb b φ (K+2200000000):=by
 have eP:=wB s h hI.find;have hk:∀W,Q w W→FsR w W F fb sb b φ (K+2200000000):=fun W q=>(((FsK.of h).q q).mono U).r
 have hc:φ.cC s a n=if φ.dj s≠0 then([],φ.dj s) else if a<0∨((φ.at9 s).size:Int)<a∨n<0 then([],2) else(((φ.holds (φ.at9 s)).drop a.toNat).take n.toNat,0):=rfl
 have pF:φ.dj s=if φ.st.dead then 4 else if isF φ.l s then 0 else 10:=rfl
 by_cases hgo:φ.st.dead=false∧isF φ.l s=true
 ·obtain⟨hd,hf⟩:=hgo
  obtain⟨KI,fr,C,hJ,gM⟩:∃KI fr C,bz KI φ fr C∧KI+4<18446744073709551616:=by
   rcases hI with h1|⟨_,h1⟩
   ·rw[hd] at h1;cases h1
   ·exact h1
  obtain⟨hp,qO⟩:=zo hf;clear qO;have eF:=LO hp;obtain⟨x1,x2,x3,x4,x5⟩:=hJ.exts _ eF;have pU:=DV φ s hp;rw[hd,hf] at eP pF;simp only[M2,ON,PM] at eP pF;rw[pF,pU,η κ] at hc;obtain⟨g,off,cap,av,rfl,wR,FN,k0,k1,k2,k3⟩:=h.file _ hp;obtain⟨ap,am,ac,rfl⟩:=wR.value;have dz:∀X,Q w X→∀a' n':Nat,a'+n'≤φ.l[aA φ.l s].size→Calls prog 36 #[au fb,oN φ.l[aA φ.l s] (.slice ap am ac),.int .i64 (a':Nat),.int .i64 (n':Nat)] X fun e w'=>e=.returned (.tuple #[ah (((φ.holds φ.l[aA φ.l s]).drop a').take n'),.int .i64 0])∧FsR w w' F fb sb b φ (K+2200000000):=fun X q a' n' hh=>by
   refine(Oa X F fb sb b φ K _ φ.l[aA φ.l s] (.slice ap am ac) a' n' (h.keep q) (wR.bh (ae.br (own:=fun _=>False) q) (fun _ _ x=>x)) (hJ.st.num U) hd U x2 x3 (hJ.blk _ eF) U U).mono fun e w' hx=>⟨?_,?_⟩
   ·rw[hx.1,yk _ _ _ _ U];rfl
   ·exact(FsK.seq (fun k hk=>.inl hk) (ae.br q) (hx.2.mono U)).r
  obtain⟨_,_,c2,_⟩:=h.box.c4;have bW:(aA φ.l s:Int)<(φ.l.length:Int):=U;have Fz:(0:Int)≤(aA φ.l s:Int):=U;have iW:=Hd eP;have HK:=Hd hk;have iO:=Hd dz;clear eP hk dz h hI hJ pF pU x1 x2 x3 x4 wR FN eF gM;have hH:(φ.holds φ.l[aA φ.l s]).length≤φ.l[aA φ.l s].size:=by unfold FsL.holds cont;exact acW _ _
  rw[hc];clear hc;generalize kS:(if a<0∨(φ.l[aA φ.l s].size:Int)<a∨n<0 then(([]:Bytes),(2:Int)) else(((φ.holds φ.l[aA φ.l s]).drop a.toNat).take n.toNat,0))=rs at *
  have xO:=Hd kS;clear kS;generalize φ.holds φ.l[aA φ.l s]=H at *;generalize φ.l[aA φ.l s]=f at *;generalize aA φ.l s=pl at *;obtain⟨fn,fsl,fsz,x⟩:=f;simp only[] at *;go_enter func14,ntmps14;go_wp2_with fail;refine iW.out.mono ?_;rintro e w1 ⟨rfl,q1⟩;have k0:=aj q1 k0;have k1:=aj q1 k1;have k2:=aj q1 k2;have k3:=aj q1 k3;have c2:=aj q1 c2;have Q1:=Hd q1;clear q1;go_upto_region 5 with fail;have qx:Q w1 _:=Q.alloc w1 (.cells #[ah fn,.bool fsl,.int .i64 (fsz:Nat),.slice ap am ac] 48);have bZ:=Blk.new w1 48 #[ah fn,.bool fsl,.int .i64 (fsz:Nat),.slice ap am ac];obtain⟨d0,d1,d2,d3,_⟩:=bZ.c4;have Q2:=Hd (Q1.out.trans qx);generalize w1.alloc (.cells #[ah fn,.bool fsl,.int .i64 (fsz:Nat),.slice ap am ac] 48)=w2 at *;clear k0 k1 k2 k3 c2 qx bZ;by_cases hg:a<0∨(fsz:Int)<a∨n<0
  ·have HG:=Hd hg
   have ZU:=Hd (HK.out _ Q2.out);by_cases g1:a<0
   ·go_wp2_with fail
    go_returns;have kS:=xO.out;rw[Φ HG.out] at kS;rw[←kS];exact⟨rfl,ZU.out⟩
   ·by_cases g2:(fsz:Int)<a
    ·go_wp2_with fail
     go_returns;have kS:=xO.out;rw[Φ HG.out] at kS;rw[←kS];exact⟨rfl,ZU.out⟩
    ·have g3:n<0:=U
     go_wp2_with fail;go_returns;have kS:=xO.out;rw[Φ HG.out] at kS;rw[←kS];exact⟨rfl,ZU.out⟩
  ·have HG:=Hd hg
   have g1:¬a<0:=U;have g2:¬(fsz:Int)<a:=U;have g3:¬n<0:=U;have e1:IntKind.i64.wrap ((fsz:Int)-a)=(fsz:Int)-a:=IntWalk.i64_in _ U;have dz:=iO.out w2 Q2.out a.toNat (min n ((fsz:Int)-a)).toNat U;have e2:((a.toNat:Nat):Int)=a:=U;have e3:(((min n ((fsz:Int)-a)).toNat:Nat):Int)=min n ((fsz:Int)-a):=U;rw[e2,e3] at dz;have ow:=Hd dz;clear dz hg e2 e3;have kH:(H.drop a.toNat).take (min n ((fsz:Int)-a)).toNat=(H.drop a.toNat).take n.toNat:=by
    by_cases qp:n≤(fsz:Int)-a
    ·rw[show min n ((fsz:Int)-a)=n by omega]
    ·rw[Mp (by rw[L5];omega),Mp (by rw[L5];omega)]
   have Ad:=Hd kH;clear kH hH;go_wp2_with fail;refine ow.out.mono ?_;rintro e w3 ⟨rfl,h3⟩;have H3:=Hd h3;clear h3;go_wp2_with fail;go_returns;have kS:=xO.out;rw[η HG.out] at kS;rw[←kS];exact⟨by rw[←Ad.out];rfl,H3.out⟩
 ·have hz:∃er:Int,(er=4∨er=10)∧φ.dj s=er∧(if φ.st.dead then #[Value.int .i64 0,.int .i64 4] else if isF φ.l s then #[Value.int .i64 (aA φ.l s:Nat),.int .i64 0] else #[Value.int .i64 0,.int .i64 10])=#[Value.int .i64 0,.int .i64 er]:=by
   rw[pF];cases h1:φ.st.dead
   ·cases h2:isF φ.l s
    ·exact⟨10,.inr rfl,rfl,rfl⟩
    ·exact absurd ⟨h1,h2⟩ hgo
   ·exact⟨4,.inl rfl,rfl,rfl⟩
  obtain⟨er,he,e1,e2⟩:=hz;have ug:φ.cC s a n=([],er):=by rw[hc,e1,Φ (by rcases he with rfl|rfl<;>decide)]
  rw[ug];rw[e2] at eP;have iW:=Hd eP;have HK:=Hd hk;clear eP hk hc pF h hI e1 e2 ug hgo;have aU:(er != 0)=true:=by rcases he with rfl|rfl<;>decide
  go_enter func14,ntmps14;go_wp2_with fail;refine iW.out.mono ?_;rintro e w1 ⟨rfl,q1⟩;have Q1:=Hd q1;clear q1;go_wp2_with fail;go_returns;exact⟨rfl,HK.out _ Q1.out⟩
end
end Go.Proofs.YtbkahhebmpehnaaGreatDoor
