/- Joined: WFsS to WFsX -/
import Derived.Test.YtbkahhebmpehnaaGreatDoorCXWFsJ
set_option linter.all false
set_option maxRecDepth 100000
set_option maxHeartbeats 8000000
namespace Go.Proofs.YtbkahhebmpehnaaGreatDoor
open Go.Proofs.Tryz
section
open Go.RowKit
theorem XC(vs:List Value):∀(l:List ax) (i:Nat) (u:Value),vs.length=l.length→i<l.length→(dH vs l).set (i*4+3) u=dH (vs.set i u) l:=by
 induction vs with
 | nil=>intro l i u h hi;rw[←h] at hi;simp at hi
 | cons a vs ih=>intro l i u h hi;cases l with
  | nil=>simp at hi
  | cons f l=>cases i with
   | zero=>rfl
   | succ i =>
    have:=ih l i u (by simpa using h) (by simpa using hi)
    rw[show(i+1)*4+3=(i*4+3)+1+1+1+1 by omega]
    simp only[dH,abZ,this]
def ie(w:World)(g:Nat)(l:List ax):Prop:=∀k (hk:k<l.length),w.cell? ⟨g,k*4,none⟩=some (ah l[k].name)∧w.cell? ⟨g,k*4+1,none⟩=some (.bool l[k].sl)∧w.cell? ⟨g,k*4+2,none⟩=some (.int .i64 (l[k].size:Nat))
def fN(w:World)(base g cap:Nat)(l:List ax):Prop:=∃vs:List Value,vs.length=l.length∧w.ownsRow base 48 4 (.slice (some ⟨g,0,none⟩) l.length cap) l.length (dH vs l)∧∀(i:Nat) a f,vs[i]?=some a→l[i]?=some f→SlP (fun k=>k≠g) w a f.ext.length 2 (ext f.ext)
section
variable {w w':World} {base g cap:Nat} {l:List ax}
theorem fN.q(h:fN w base g cap l)(q:Q w w'):fN w' base g cap l:=by
 obtain⟨vs,e1,e2,e3⟩:=h;exact⟨vs,e1,ownsRow_below e2 q,fun i a f ha hf=>(e3 i a f ha hf).bh (ae.br (own:=fun _=>False) q) (fun _ _ x=>x)⟩
theorem fN.c(h:fN w base g cap l):g<w.heap.size∧ie w g l:=by
 obtain⟨vs,e1,e2,e3⟩:=h;refine⟨(e2.lt g rfl).2,fun k hk=>?_⟩
 obtain⟨x0,x1,x2,_⟩:=wm vs l k hk e1;exact⟨(e2.cellAt (k*4) U).trans x0,(e2.cellAt (k*4+1) U).trans x1,(e2.cellAt (k*4+2) U).trans x2⟩
theorem fN.at(h:fN w base g cap l)(i:Nat)(hi:i<l.length):∃av,w.cell? ⟨g,i*4+3,none⟩=some av∧w.frozen? ⟨g,i*4+3,none⟩=false∧Sl w av l[i].ext.length 2 (ext l[i].ext):=by
 obtain⟨vs,e1,e2,e3⟩:=h;obtain⟨_,_,_,x3⟩:=wm vs l i hi e1;exact⟨_,(e2.cellAt (i*4+3) U).trans x3,e2.frozenAt _,(e3 i _ _ (LN U) (LN hi)).1⟩
theorem fN.put(h:fN w base g cap l)(q:Q w w')(i:Nat)(hi:i<l.length){u:Value}(hu:w'.ownsRow w.heap.size 87 2 u l[i].ext.length (ext l[i].ext)):fN (w'.setCell ⟨g,i*4+3,none⟩ u) base g cap l:=by
 have pV:g<w.heap.size:=by
  obtain⟨vs,e1,e2,e3⟩:=h;exact(e2.lt g rfl).2
 obtain⟨vs,e1,e2,e3⟩:=h.q q;have aC:=(e2.stored (i*4+3) u).1;rw[XC vs l i u e1 hi] at aC;have t:ae (fun k=>k=g) w' (w'.setCell ⟨g,i*4+3,none⟩ u):=ae.setCell (a:=⟨g,i*4+3,none⟩) (ae.refl (fun k=>k=g) w') (.inl rfl) _
 refine⟨vs.set i u,by rw[Rx,e1],aC,fun j a f ha hf=>?_⟩
 rw[abu] at ha;split at ha
 ·rename_i GQ
  subst GQ;rw[LN hi] at hf;simp only[e1,hi,PM,M3] at ha hf;subst ha;subst hf;exact((SlP.cx hu).mono (R:=fun k=>k≠g) (fun k hk _=>U) Z).bh t (fun k hk hc=>hk hc)
 ·exact(e3 j a f ha hf).bh t (fun k hk hc=>hk hc)
end
theorem abo(x:List (Nat×Nat)):∀u∈ext x,u.oneCell'=true:=oE x
theorem vu(w:World)(F:Nat→Prop)(fb sb b:Nat)(φ:FsL)(K:Nat)(v:Value)(h:FsG w F fb sb b φ K v)(hl:φ.l.length≤1000)(hx:∀f∈φ.l,f.ext.length≤1000):
  Calls prog 15 #[au fb] w fun e w'=>∃a cap,e=.returned (.slice a φ.l.length cap)∧Q w w'∧(0<φ.l.length→∃g,a=some ⟨g,0,none⟩∧w.heap.size≤g∧g<w'.heap.size∧ie w' g φ.l):=by
 have bL:Calls prog 37 #[v] w fun e w'=>∃v',e=.returned v'∧Hid (∃a cap,v'=.slice a φ.l.length cap∧(0<φ.l.length→∃g,a=some ⟨g,0,none⟩∧w.heap.size≤g∧fN w' w.heap.size g cap φ.l))∧Q w w':=(Xz h.rows U).mono fun e w' hh=>by
  obtain⟨v',r1,r2,r3⟩:=hh;refine⟨v',r1,Hd ?_,r3⟩;obtain⟨vs,e1,e2,e3⟩:=r2;have ay:=e2.lt;obtain⟨a,cap,rfl,hg⟩:=aY e2;refine⟨a,cap,rfl,fun hn=>?_⟩
  obtain⟨g,rfl⟩:=hg hn;have:=(ay g rfl).1;exact⟨g,rfl,this,vs,e1,e2,fun i a f ha hf=>(e3 i a f ha hf).mono (fun k hk _=>by have:=hk.2;omega) Z⟩
 have hex:=fun (k:Nat) (hk:k<φ.l.length)=>hx _ (LO hk)
 obtain⟨_,_,c2,_⟩:=h.box.c4;obtain⟨la,lc,rfl⟩:∃a c,v=.slice a φ.l.length c:=by obtain⟨a,c,e,_⟩:=h.files.s.value;exact⟨a,c,e⟩
 have p8:=Hd bL;have BF:=Hd hex;clear bL hex hx h;generalize φ.l=l at *;go_enter func15,ntmps15;go_wp2_with fail;refine p8.out.mono ?_;rintro e w1 ⟨v1,rfl,H1,q1⟩;have Q1:=Hd q1;clear q1;obtain⟨a,cap,rfl,hr⟩:=H1.out;have HR:=Hd hr;clear hr H1 c2;go_wp2_with fail;go_loopw [12] (fun i wr=>∃k:Nat,i=.int .i64 (k:Nat)∧k≤l.length∧Hid (Q w wr)∧Hid (0<l.length→∃g,a=some ⟨g,0,none⟩∧w.heap.size≤g∧fN wr w.heap.size g cap l)) (fun i _=>l.length-(intOf i).toNat)
 case atStart=>exact⟨0,rfl,L0 _,Q1,HR⟩
 case round =>
  obtain⟨k,rfl,hk,HQ,HX⟩:=hrel;obtain⟨wo,rfl⟩:∃wo:World,wo=wr:=⟨_,rfl⟩;by_cases ay:k<l.length
  ·have bq:(k:Int)<(l.length:Int):=U
   have lT:(0:Int)≤(k:Int):=U;obtain⟨g,rfl,hg,hX⟩:=HX.out U;obtain⟨av,c3,f3,bX⟩:=hX.at k ay;obtain⟨ea,ec,rfl,hxx⟩:=jS bX;clear hxx;have OE:Calls prog 38 #[.slice ea l[k].ext.length ec] wo fun e w'=>∃p m c,e=.returned (.slice p m c)∧Hid (Q wo w')∧(∃u,w'.cell? ⟨g,k*4+3,none⟩=some u)∧w'.frozen? ⟨g,k*4+3,none⟩=false∧Hid (fN (w'.setCell ⟨g,k*4+3,none⟩ (.slice p m c)) w.heap.size g cap l):=(Xy _ _ _ wo bX (abo _) (by have:=BF.out k ay;omega)).mono fun e w' hh=>by
    obtain⟨v',r1,r2,r3⟩:=hh;obtain⟨p,c,e1,_⟩:=aY r2;subst e1;obtain⟨u,x1,x2,_⟩:=(hX.q r3).at k ay;exact⟨p,_,c,r1,Hd r3,⟨u,x1⟩,x2,Hd (hX.put r3 k ay r2)⟩
   have xW:=Hd OE;clear OE hX bX HX;generalize l[k].ext.length=el at *;go_wp2_with fail;refine xW.out.mono ?_;rintro e w2 ⟨p,m,c,rfl,QO,⟨u,c4⟩,f4,HX2⟩;clear c3 f3;have bJ:=Hd (Q.setCell (HQ.out.trans QO.out) (a:=⟨g,k*4+3,none⟩) hg (.slice p m c));clear QO;go_wp2_with fail;go_roundw;case rel=>exact⟨k+1,by go_num,ay,bJ,Hd (fun _=>⟨g,rfl,hg,HX2.out⟩)⟩
   case measure=>simp[intOf];omega
  ·obtain rfl:k=l.length:=U
   have bq:¬(l.length:Int)<(l.length:Int):=U;go_wp2_with fail;go_ret;exact⟨a,⟨cap,rfl⟩,HQ.out,fun hn=>by obtain⟨g,e,hg,hX⟩:=HX.out hn;exact⟨g,e,hg,hX.c⟩⟩
end
section
open Go.RowKit
theorem U8(s:Bytes):∀(l:List ax),l.Pairwise (fun a b=>a.name<b.name)→isF l s=true→aA (l.eraseIdx (aA l s)) s=aA l s:=by
 intro l;induction l with
 | nil=>intro _ h;simp[isF,aA] at h
 | cons f l ih =>
  intro hr h;obtain⟨h1,h2⟩:=SJ.1 hr;by_cases hf:f.name<s
  ·have e:aA (f::l) s=aA l s+1:=by rw[aA,Φ hf]
   have hi:isF l s=true:=by
    unfold isF at h ⊢;rw[e,Wg] at h;exact h
   rw[e,List.eraseIdx_cons_succ,aA,Φ hf,ih h2 hi]
  ·have e:aA (f::l) s=0:=by rw[aA,η hf]
   have hn:f.name=s:=by
    unfold isF at h;rw[e] at h;simpa using h
   rw[e,List.eraseIdx_cons_zero];cases l with
   | nil=>rfl
   | cons g l =>
    have hg:=h1 g (Mu ..);rw[aA,η (fun hc=>DR s (mr (hn▸hg) hc))]
theorem Ls(s:Bytes)(l:List ax)(hr:l.Pairwise fun a b=>a.name<b.name):aA (eZ l s) s=aA l s:=by
 unfold eZ;split
 ·exact U8 s l hr (by assumption)
 ·rfl
section
variable {KI:Nat} {φ:FsL} {fr:List (List WrL)} {C:Nat→Bytes}
theorem XD(h:bz KI φ fr C)(i:Nat)(hi:i<φ.l.length)(tn:Bytes)(ho:iM tn=true):cN (ak φ.st.n+12) φ.st.n (jE (eZ (φ.l.eraseIdx i) tn) (φ.l[i].named tn)):=by
 have he:=h.good.ok.erase i;obtain⟨l1,l2,l3,l4⟩:=J5 he tn;have hp:=wh (eZ (φ.l.eraseIdx i) tn) (φ.l[i].named tn);have zA:=mZ hi;have Tw:(fD ((φ.l[i].named tn)::eZ (φ.l.eraseIdx i) tn)).Nodup:=by
  have h1:=(jf zA).nodup_iff.1 h.good.ok.apart;refine h1.sublist ?_;rw[gJ,gJ];refine aef (W6 _) (tH ?_);unfold eZ;split
  ·exact Se _ _
  ·exact W6 _
 refine cN.gR (fun f hf=>?_) (EC l1.rise _ l2) hp ?_ Tw
 ·rcases MA.1 hf with rfl|hf
  ·have:=h.good.ok.ok _ (LO hi)
   exact⟨ho,this.size,this.few,this.ext,this.need⟩
  ·exact l1.ok f hf
 ·have h1:=zA.length_eq;have h2:=h.good.ok.few
  have h3:(eZ (φ.l.eraseIdx i) tn).length≤(φ.l.eraseIdx i).length:=by
   unfold eZ;split
   ·exact(Se _ _).length_le
   ·exact Ω _
  rw[Θ] at h1 ⊢;omega
end
section
variable {P R:Nat→Prop} {w w':World} {base:Nat} {v:Value} {l:List ax}
theorem cE.bh{own:Nat→Prop}(h:cE P w base v l)(t:ae own w w')(h1:∀k,P k→¬own k)(h2:∀g,v.ownBlock=some g→¬own g):cE P w' base v l:=by
 obtain⟨vs,e1,e2,e3⟩:=h;refine⟨vs,e1,⟨e2.1,?_⟩,fun i a f ha hf=>(e3 i a f ha hf).bh t h1⟩
 rcases e2.2 with e|⟨g,cap,cur,rfl,x1,x2,x3⟩
 ·exact .inl e
 ·exact .inr ⟨g,cap,cur,rfl,x1,(t.block g (aJ x2) (h2 g rfl)).trans x2,x3⟩
theorem cE.s(h:cE P w base v l):eQ w v l:=by
 obtain⟨vs,e1,e2,e3⟩:=h;exact⟨vs,e1,Sl.cx e2,fun i a f ha hf=>(e3 i a f ha hf).1⟩
theorem cE.file(h:cE P w base v l)(i:Nat)(hi:i<l.length):∃g cap av,v=.slice (some ⟨g,0,none⟩) l.length cap∧SlP P w av l[i].ext.length 2 (ext l[i].ext) ∧
  w.cell? ⟨g,i*4,none⟩=some (ah l[i].name)∧w.cell? ⟨g,i*4+1,none⟩=some (.bool l[i].sl)∧w.cell? ⟨g,i*4+2,none⟩=some (.int .i64 (l[i].size:Nat))∧w.cell? ⟨g,i*4+3,none⟩=some av:=by
 obtain⟨vs,e1,e2,e3⟩:=h;obtain⟨a,cap,rfl,hg⟩:=aY e2;obtain⟨g,rfl⟩:=hg U;obtain⟨x0,x1,x2,x3⟩:=wm vs l i hi e1;exact⟨g,cap,vs[i]' U,rfl,e3 i _ _ (LN U) (LN hi),(e2.cellAt (i*4) U).trans x0,(e2.cellAt (i*4+1) U).trans x1,(e2.cellAt (i*4+2) U).trans x2,(e2.cellAt (i*4+3) U).trans x3⟩
end
theorem SlP.strong{P R:Nat→Prop}{w:World}{v:Value}{n size:Nat}{xs:List Value}(h:SlP P w v n size xs)(k:∀g,v.ownBlock=some g→R g):SlP R w v n size xs :=
 ⟨h.1,fun hn b off cap e=>k b (by rw[e];rfl)⟩
theorem pd{w W X w7:World}{F G G7:Nat→Prop}{fb sb b:Nat}{φ:FsL}{K:Nat}{v v7:Value}{base:Nat}{l2:List ax}{f:ax}{av:Value}{KI first:Nat}{fr:List (List WrL)}{C:Nat→Bytes}
  (pV:∀k,own G fb k→k<W.heap.size) (h2:∀k,G k→grow F w W k) (h3:ae (own F fb) w W) (qX:Q W X) (g1:FsG w7 G7 fb sb b φ K v) (g2:∀k,G7 k→grow G X w7 k) (g3:ae (fun k=>own G fb k∨W.heap.size≤k) X w7)
  (hw:cE (Pw G fb W) w7 base v7 l2) (hb:W.heap.size≤base) (bN:base≤X.heap.size) (hv:∀g,v7.ownBlock=some g→g<X.heap.size) (hl:l2.length≤1000) (wR:SlP (Pw G fb W) w7 av f.ext.length 2 (ext f.ext)) (hf:ci (Pw G fb W) w7 v φ.l)
  (hd:cN first φ.st.n (jE l2 f)) (hs:eE KI φ.st fr C) (gM:KI<18446744073709551616) (hp:φ.packed=[]∨φ.packed.length=3072) (hK:K+20≤1000000000000000000) :
  Calls prog 72 #[v7,.int .i64 (aA l2 f.name:Nat),.slice (some ⟨w7.heap.size,0,none⟩) 1 1] (w7.alloc (.cells #[ah f.name,.bool f.sl,.int .i64 (f.size:Nat),av] 48)).drew (fun e w'=>∃v',e=.returned v'∧Hid (ci (fun k=>¬own G7 fb k) w' v' (jE l2 f))∧ae (fun k=>base≤k∧(v7.ownBlock=some k)) w7 w') ∧
  ∀(Y:World) (lv:Value),ae (fun k=>base≤k∧(v7.ownBlock=some k)) w7 Y→ci (fun k=>¬own G7 fb k) Y lv (jE l2 f)→Calls prog 71 #[au fb,lv] Y fun e w'=>e=.returned (.int .i64 (φ.st.dir φ.packed (jE l2 f)).2)∧FsR w w' F fb sb b (φ.wr (jE l2 f)) (K+12)∧ae (own G7 fb) Y w':=by
 have q0:Q w7 (w7.alloc (.cells #[ah f.name,.bool f.sl,.int .i64 (f.size:Nat),av] 48)).drew:=(Q.alloc _ _).trans (Q.drew _);have hsX:=qX.size;have Mj:=g3.size;have h7:∀k,own G7 fb k→own G fb k∨X.heap.size≤k∧k<w7.heap.size:=fun k hk=>by
  rcases hk with hk|hk
  ·exact(g2 k hk).imp .inl id
  ·exact .inl (.inr hk)
 have ael:∀g,v7.ownBlock=some g→¬own G7 fb g:=fun g hg hc=>by
  have h1:=hv g hg;have h2:=(hw.lt g hg).1;rcases h7 g hc with h3|h3
  ·have:=pV g h3;omega
  ·omega
 have ZX:∀k,Pw G fb W k→¬own G7 fb k:=fun k hk hc=>by
  have:=hk.2;rcases h7 k hc with h3|h3
  ·exact hk.1 h3
  ·omega
 have vP:∀k,own G7 fb k→k<w7.heap.size:=g1.fi;refine⟨?_,fun Y lv t lI=>?_⟩
 ·refine(Je (hw.q q0) (fun k hk=>Ψ hk.2 hb) hl (by have:=q0.size;omega) (aA l2 f.name) (Gm _ _) f av (wR.bh (ae.br (own:=fun _=>False) q0) (fun _ _ x=>x)) w7.heap.size ((Blk.new w7 _ _).stays (Q.drew _)) (fun e=>absurd (hw.lt _ e).2 (TE _))).mono fun e w' hx=>?_
  obtain⟨v',r1,r2,r3,r4⟩:=hx;refine⟨v',r1,Hd ?_,(ae.br q0).trans r3⟩;obtain⟨vs,e1,e2,e3⟩:=r2;refine⟨vs,e1,(SlP.cx e2).strong (fun g hg hc=>?_),fun i a f ha hf=>(e3 i a f ha hf).mono (fun k hk _=>ZX k hk) Z⟩
  rcases r4 with r4|r4
  ·exact ael g (r4.symm.trans hg) hc
  ·rw[r4] at hg
   have:=vP g hc;have bP:=q0.size;simp only[M3] at hg;omega
 ·have hd7:∀k,own G7 fb k→¬(base≤k∧v7.ownBlock=some k):=fun k hk hc=>ael k hc.2 hk
  have hY:FsG Y G7 fb sb b φ K v:=⟨g1.st.beside t (fun k hk=>hd7 k (.inl hk)),t.blk g1.box (hd7 fb (.inr rfl)),g1.nb,(hf.bh t (fun k hk hc=>by have:=hk.2;have:=hc.1;omega)).mono fun k hk _=>ZX k hk⟩
  refine(Aw Y G7 fb sb b φ K v lv (jE l2 f) hY lI hd hs gM hp hK).mono fun e w' hx=>⟨hx.1,?_,by obtain⟨H,_,_,t⟩:=hx.2;exact t⟩
  have htY:=t.size;have hqs:=qX.size;have h3s:=h3.size;refine FsR.seq (fun k hk=>?_) ⟨t.os.trans (g3.os.trans (qX.os.trans h3.os)),t.tape.trans (g3.tape.trans (qX.tape.trans h3.tape)),t.output.trans (g3.output.trans (qX.output.trans h3.output)),U,fun k hk hn=>?_⟩ hx.2
  ·rcases g2 k hk with h|h
   ·exact(h2 k h).imp id fun h=>⟨h.1,U⟩
   ·exact .inr ⟨U,U⟩
  ·refine(t.block k U (fun hc=>by have:=hc.1;omega)).trans ((g3.block k U (fun hc=>?_)).trans ((qX.block k U).trans (h3.block k hk hn)))
   rcases hc with (hc|hc)|hc
   ·rcases h2 k hc with hc|hc
    ·exact hn (.inl hc)
    ·omega
   ·exact hn (.inr hc)
   ·omega
theorem ci.file{P:Nat→Prop}{w:World}{v:Value}{l:List ax}(h:ci P w v l)(i:Nat)(hi:i<l.length):∃g off cap av,v=.slice (some ⟨g,off,none⟩) l.length cap∧SlP P w av l[i].ext.length 2 (ext l[i].ext)∧P g ∧
  w.cell? ⟨g,off+i*4,none⟩=some (ah l[i].name)∧w.cell? ⟨g,off+i*4+1,none⟩=some (.bool l[i].sl)∧w.cell? ⟨g,off+i*4+2,none⟩=some (.int .i64 (l[i].size:Nat))∧w.cell? ⟨g,off+i*4+3,none⟩=some av:=by
 obtain⟨vs,h1,h2,h3⟩:=h;obtain⟨⟨_,a,cap,rfl,hc⟩,hp⟩:=h2;obtain⟨g,off,rfl,hd⟩:=hc U;obtain⟨e0,e1,e2,e3⟩:=wm vs l i hi h1;exact⟨g,off,cap,vs[i]' U,rfl,h3 i _ _ (LN U) (LN hi),hp U g off cap rfl,hd _ _ e0,hd _ _ e1,hd _ _ e2,hd _ _ e3⟩
theorem FsG.off{P own' G7:Nat→Prop}{w7 w8:World}{fb sb b:Nat}{φ:FsL}{K:Nat}{v:Value}(h:FsG w7 G7 fb sb b φ K v)(t:ae own' w7 w8)(hd:∀k,own G7 fb k→¬own' k)(hf:ci P w7 v φ.l)(h1:∀k,P k→¬own' k)(h2:∀k,P k→¬own G7 fb k):FsG w8 G7 fb sb b φ K v :=
 ⟨h.st.beside t (fun k hk=>hd k (.inl hk)),t.blk h.box (hd fb (.inr rfl)),h.nb,(hf.bh t h1).mono fun k hk _=>h2 k hk⟩
end
section
open Go.RowKit
theorem Rc(w W:World)(F:Nat→Prop)(fb sb b:Nat)(φ:FsL)(K:Nat)(v:Value)(i:Nat)(hi:i<φ.l.length)(tn:Bytes){KI first:Nat}{fr:List (List WrL)}{C:Nat→Bytes}(h:FsK w W F fb sb b φ K v)(hl:φ.l.length≤1000)(kS:φ.l.Pairwise fun a b=>a.name<b.name)
  (hx:(jg (φ.l.eraseIdx i) tn).length≤16) (hr:kh KI φ.st fr C (jg (φ.l.eraseIdx i) tn)) (hd:cN first (φ.st.bo (jg (φ.l.eraseIdx i) tn)).1.n (jE (eZ (φ.l.eraseIdx i) tn) (φ.l[i].named tn))) (hs:eE KI (φ.st.bo (jg (φ.l.eraseIdx i) tn)).1 fr C) (gM:KI<18446744073709551616) (hp:φ.packed=[]∨φ.packed.length=3072) (hK:K+60≤1000000000000000000) :
  Calls prog 46 #[.agg #[au fb,.int .i64 (i:Nat),ah tn]] W fun e w'=>e=.returned (.int .i64 ((φ.st.bo (jg (φ.l.eraseIdx i) tn)).1.dir φ.packed (jE (eZ (φ.l.eraseIdx i) tn) (φ.l[i].named tn))).2)∧FsR w w' F fb sb b (FsL.wr { φ with st:=(φ.st.bo (jg (φ.l.eraseIdx i) tn)).1 } (jE (eZ (φ.l.eraseIdx i) tn) (φ.l[i].named tn))) (K+44):=by
 obtain⟨G,hG,h2,h3⟩:=h;obtain⟨wa,dO⟩:∃wa,wa=W.alloc (.cells #[au fb,.int .i64 (i:Nat),ah tn] 94):=⟨_,rfl⟩;have qa:Q W wa:=by rw[dO];exact Q.alloc _ _
 have bZ:Blk wa W.heap.size 94 #[au fb,.int .i64 (i:Nat),ah tn]:=by rw[dO];exact Blk.new W _ _
 have ay:=hG.fi;have pX:¬own G fb W.heap.size:=fun hc=>by have:=ay _ hc;omega
 have Mw:=hG.keep qa;obtain⟨g,off,cap,av,rfl,wR,FN,k0,k1,k2,k3⟩:=(hG.rows.q qa).file i hi;obtain⟨ap,am,ac,rfl⟩:=wR.value;obtain⟨_,_,c2,_⟩:=Mw.box.c4;obtain⟨d0,d1,d2,_⟩:=bZ.c3;have CX:(i:Int)<(φ.l.length:Int):=U;have qL:(0:Int)≤(i:Int):=U;have HG:=Hd hG;have H2:=Hd h2;have H3:=Hd h3;have HAV:=Hd wR;have rW:=Hd FN;have FI:=Hd pX;have HR:=Hd hr;have HD:=Hd hd;have HS:=Hd hs;have xO:=Hd kS;have QA:=Hd qa;have HX:=Hd hx;clear hG h2 h3 wR FN pX hr hd hs kS qa hx Mw ay bZ;go_enter func46,ntmps46;go_wp2_with fail;rw[←dO];clear dO
 (go_region_held3 (fun w'=>w'.cell? ⟨W.heap.size,0,none⟩=some (au fb)∧w'.cell? ⟨W.heap.size,1,none⟩=some (.int .i64 (i:Nat))∧w'.cell? ⟨g,off+i*4,none⟩=some (ah φ.l[i].name)∧w'.cell? ⟨g,off+i*4+1,none⟩=some (.bool φ.l[i].sl)∧w'.cell? ⟨g,off+i*4+2,none⟩=some (.int .i64 (φ.l[i].size:Nat))∧w'.cell? ⟨g,off+i*4+3,none⟩=some (.slice ap am ac)∧w'.cell? ⟨fb,2,none⟩=some (.slice (some ⟨g,off,none⟩) φ.l.length cap))
  (first|exact⟨d0,d1,k0,k1,k2,k3,c2⟩|exact qf (by repeat (first|with_reducible exact Q.refl _|with_reducible apply Qs.dr|with_reducible apply Qs.al)) d0 d1 k0 k1 k2 k3 c2 )
  (first|fail))
 have eO:IntKind.i64.wrap ((i:Int)+1)=(i:Int)+1:=IntWalk.i64_in _ U;have eu:Blk (wa.alloc (.cells #[ah φ.l[i].name,.bool φ.l[i].sl,.int .i64 (φ.l[i].size:Nat),.slice ap am ac] 48)).drew wa.heap.size 48 #[ah φ.l[i].name,.bool φ.l[i].sl,.int .i64 (φ.l[i].size:Nat),.slice ap am ac]:=(Blk.new wa _ _).stays (Q.drew _);have qk:Q wa (wa.alloc (.cells #[ah φ.l[i].name,.bool φ.l[i].sl,.int .i64 (φ.l[i].size:Nat),.slice ap am ac] 48)).drew:=(Q.alloc _ _).trans (Q.drew _);have iT:=eu.set 0 (ah tn);have qy:=Q.setCell qk (a:=⟨wa.heap.size,0,none⟩) (Ω _) (ah tn);obtain⟨b0,b1,b2,b3,f0,_⟩:=eu.c4;clear k0 k1 k2 k3;have y0:=aj qy d0;have y1:=aj qy d1;have y2:=aj qy d2;have yc:=aj qy c2;have hsy:wa.heap.size<(((wa.alloc (.cells #[ah φ.l[i].name,.bool φ.l[i].sl,.int .i64 (φ.l[i].size:Nat),.slice ap am ac] 48)).drew).setCell ⟨wa.heap.size,0,none⟩ (ah tn)).heap.size:=iT.lt;replace d0:=aj qk d0;replace d1:=aj qk d1;replace d2:=aj qk d2;replace c2:=aj qk c2;clear eu qk;generalize (wa.alloc (.cells #[ah φ.l[i].name,.bool φ.l[i].sl,.int .i64 (φ.l[i].size:Nat),.slice ap am ac] 48)).drew=wk at *;go_upto_region 3 with fail;clear b0 b1 b2 b3 f0 d0 d1 d2 c2;generalize wk.setCell ⟨wa.heap.size,0,none⟩ (ah tn)=wy at *;have aen:Blk wy wa.heap.size 48 #[ah tn,.bool φ.l[i].sl,.int .i64 (φ.l[i].size:Nat),.slice ap am ac]:=iT;have hqy:Q W wy:=QA.out.trans qy;have pV:=HG.out.fi;have qp:(φ.l.eraseIdx i).length≤1000:=LS (adO ..) hl;have bL:Calls prog 37 #[.slice (some ⟨g,off,none⟩) φ.l.length cap] wy.drew fun e w'=>∃v',e=.returned v'∧Hid (cE (Pw G fb W) w' wy.heap.size v' φ.l)∧Q wy w':=(HG.out.jp hl (hqy.trans (Q.drew wy))).mono fun e w' hh=>by
  obtain⟨v',r1,r2,r3⟩:=hh;exact⟨v',r1,Hd (r2.low (Q.drew wy).size),(Q.drew wy).trans r3⟩
 have Cu:∀X v0,Q wy X→cE (Pw G fb W) X wy.heap.size v0 φ.l→Calls prog 92 #[v0,.int .i64 (i:Nat),.int .i64 ((i:Int)+1)] X fun e w'=>∃v',e=.returned v'∧Hid (cE (Pw G fb W) w' wy.heap.size v' (φ.l.eraseIdx i))∧Q wy w':=fun X v0 q hw=>(Dm hw (fun k hk=>Ψ hk.2 hqy.size) hl i hi).mono fun e w' hh=>by
  obtain⟨v',r1,_,r3,r4⟩:=hh;exact⟨v',r1,Hd r3,r4.below q q.size (fun k hk=>(hw.lt k hk).1)⟩
 have eP:∀X v0,cE (Pw G fb W) X wy.heap.size v0 (φ.l.eraseIdx i)→Calls prog 66 #[v0,ah tn] X fun e w'=>e=.returned (.tuple #[.int .i64 (aA (φ.l.eraseIdx i) tn:Nat),.bool (isF (φ.l.eraseIdx i) tn)])∧Q X w':=fun X v0 hw=>J8 v0 _ tn X hw.s U (xO.out.sublist (Se _ _))
 have p8:=Hd bL;have TM:=Hd Cu;have iW:=Hd eP;have QY:=Hd hqy;have Ic:=Hd aen;have FH:=Hd pV;have qQ:=Hd hsy;have QAY:=Hd qy;clear bL Cu eP hqy iT aen pV qy hsy;have KK:=Hd (Q.refl wy)
 (go_region_held3 (fun w'=>w'.cell? ⟨W.heap.size,0,none⟩=some (au fb)∧w'.cell? ⟨W.heap.size,1,none⟩=some (.int .i64 (i:Nat))∧w'.cell? ⟨fb,2,none⟩=some (.slice (some ⟨g,off,none⟩) φ.l.length cap))
  (first|exact g1|exact⟨y0,y1,yc⟩|exact three (by repeat (first|with_reducible exact KK.out|with_reducible exact Q.refl _|with_reducible apply Qs.dr)) y0 y1 yc)
  (first
   | (go_at_call 37;refine p8.out.mono ?_;rintro e w4 ⟨v1,rfl,F1,s'⟩;have g1:=three s' y0 y1 yc;clear KK;have KK:=Hd s';clear s')
   | (go_at_call 92;refine(TM.out _ v1 KK.out F1.out).mono ?_;rintro e w5 ⟨v2,rfl,F2,s'⟩;have g1:=three s' y0 y1 yc;clear KK;have KK:=Hd s';clear s')))
 replace y2:=aj KK.out y2;have ou:=Hd (Ic.out.stays KK.out);obtain⟨y0',y1',yc'⟩:=g1;go_wp2_with fail;refine(iW.out _ v2 F2.out).mono ?_;rintro e w6 ⟨rfl,q6⟩;have yj:Q W w6:=QY.out.trans (KK.out.trans q6);have ZY:=Hd (F2.out.q q6);have RY:=Hd (ou.out.stays q6);have z0:=aj q6 y0';have aeo:Q wa w6:=QAY.out.trans (KK.out.trans q6);have aep:=HAV.out.bh (ae.br (own:=fun _=>False) aeo) (fun _ _ x=>x)
 have Mx:=HG.out.rows.q yj;have RG:wy.heap.size≤w6.heap.size:=(KK.out.trans q6).size;have rT:¬own G fb W.heap.size∧¬own G fb wa.heap.size:=⟨FI.out,fun hc=>by have:=FH.out _ hc;have:=QA.out.size;omega⟩
 have HA6:=Hd aep;have OV:=Hd Mx;have lG:=Hd yj;clear y0 y1 yc y0' y1' yc' y2 q6 KK F1 iW p8 TM aep Mx aeo yj;cases TN:isF (φ.l.eraseIdx i) tn with
 | false =>
  have e1:(φ.st.bo (jg (φ.l.eraseIdx i) tn)).1=φ.st:=by unfold jg;rw[TN];rfl
  have e2:eZ (φ.l.eraseIdx i) tn=φ.l.eraseIdx i:=by unfold eZ;rw[TN];rfl
  have YP:=pd (w:=w) (W:=W) (X:=w6) (w7:=w6) (F:=F) (G:=G) (G7:=G) (fb:=fb) (sb:=sb) (b:=b) (φ:={ φ with st:=(φ.st.bo (jg (φ.l.eraseIdx i) tn)).1 }) (K:=K+32) (v7:=v2) (base:=wy.heap.size) (l2:=eZ (φ.l.eraseIdx i) tn) (f:=φ.l[i].named tn) (av:=.slice ap am ac) FH.out H2.out H3.out lG.out (by rw[e1];have h9:=HG.out.keep lG.out;exact⟨h9.st.mono (fun _ x=>x) h9.st.lt U,h9.box,h9.nb,h9.files⟩) (fun k hk=>.inl hk) (ae.refl _ _) (by rw[e2];exact ZY.out) QY.out.size RG (fun g hg=>(ZY.out.lt g hg).2) (by rw[e2];exact qp) HA6.out OV.out HD.out HS.out gM hp U
  clear e1 e2;have ZC:=RY;have HN0:=Hd rT.1;have fZ:=Hd rT.2;clear rT;obtain⟨xY,zG⟩:=YP;rw[show(φ.l[i].named tn).name=tn from rfl,Ls tn _ (xO.out.sublist (Se _ _))] at xY
  have D7:=Hd xY;have fG:=Hd zG;clear xY zG;have oV:=qQ.out;have jm:=QA.out.size;obtain⟨b0,b1,b2,b3,_⟩:=ZC.out.c4;have b0d:=aj ((Q.alloc w6 (.cells #[ah tn,.bool φ.l[i].sl,.int .i64 (φ.l[i].size:Nat),.slice ap am ac] 48)).trans (Q.drew _)) b0;go_wp2_with fail
  (go_region_held3 (fun w'=>w'.cell? ⟨W.heap.size,0,none⟩=some (au fb)∧w'.cell? ⟨wa.heap.size,0,none⟩=some (ah tn)∧w'.cell? ⟨wa.heap.size,1,none⟩=some (.bool φ.l[i].sl)∧w'.cell? ⟨wa.heap.size,2,none⟩=some (.int .i64 (φ.l[i].size:Nat))∧w'.cell? ⟨wa.heap.size,3,none⟩=some (.slice ap am ac))
   (first|exact g9|exact g8|exact⟨z0,b0,b1,b2,b3⟩|exact five (by repeat (first|with_reducible exact Q.refl _|with_reducible apply Qs.dr|with_reducible apply Qs.al)) z0 b0 b1 b2 b3)
   (first
    | (go_at_call 72;refine D7.out.mono ?_;rintro e w8 ⟨v8,rfl,F8,t8⟩;have g8:=And.intro (t8.cell z0 (fun hc=>by have:=hc.1;simp only[] at this;omega)) (And.intro (t8.cell b0 (fun hc=>by have:=hc.1;simp only[] at this;omega)) (And.intro (t8.cell b1 (fun hc=>by have:=hc.1;simp only[] at this;omega)) (And.intro (t8.cell b2 (fun hc=>by have:=hc.1;simp only[] at this;omega)) (t8.cell b3 (fun hc=>by have:=hc.1;simp only[] at this;omega)))));have T8:=Hd t8;clear t8)
    | (go_at_call 71;refine(fG.out _ _ T8.out F8.out).mono ?_;rintro e w9 ⟨rfl,f9,t9⟩;have g9:=And.intro (t9.cell g8.1 HN0.out) (And.intro (t9.cell g8.2.1 fZ.out) (And.intro (t9.cell g8.2.2.1 fZ.out) (And.intro (t9.cell g8.2.2.2.1 fZ.out) (t9.cell g8.2.2.2.2 fZ.out))));have F9:=Hd (f9.mono (show K+32+12≤K+44 by omega));clear t9 f9)))
  all_goals
   go_wp2_with fail;go_ret;exact⟨rfl,F9.out⟩
 | true =>
  obtain⟨oq,Ae⟩:=zo TN;have e1:jg (φ.l.eraseIdx i) tn=(φ.l.eraseIdx i)[aA (φ.l.eraseIdx i) tn].ext:=by unfold jg;rw[TN,Φ rfl,LN oq];rfl
  have e2:eZ (φ.l.eraseIdx i) tn=(φ.l.eraseIdx i).eraseIdx (aA (φ.l.eraseIdx i) tn):=by unfold eZ;rw[TN,Φ rfl]
  clear Ae;obtain⟨gr,cr,ar,rfl,har,m0,m1,m2,m3⟩:=ZY.out.file _ oq;obtain⟨pr,nr,qr,rfl⟩:=har.value;have oW:=ZY.out.lt gr rfl;have aeu:¬own G fb gr:=fun hc=>by have:=FH.out _ hc;have:=QY.out.size;omega
  have V9:∀k,Pw G fb W k→¬own G fb k:=fun k hk=>hk.1
  have vw:Calls prog 93 #[au fb,oN (φ.l.eraseIdx i)[aA (φ.l.eraseIdx i) tn] (.slice pr nr qr)] w6.drew fun e w'=>e=.returned (.int .i64 0)∧FsK w6 w' G fb sb b { φ with st:=(φ.st.bo (jg (φ.l.eraseIdx i) tn)).1 } (K+32) (.slice (some ⟨g,off,none⟩) φ.l.length cap):=by
   have Jq:=HX.out;have Zk:=HR.out;rw[e1] at Jq Zk ⊢;refine(Gv w6.drew G fb sb b φ K _ _ _ (HG.out.keep (lG.out.trans (Q.drew _))) ((har.bh (ae.br (own:=fun _=>False) (Q.drew w6)) (fun _ _ x=>x)).mono (fun k hk _=>V9 k hk) Z) Jq Zk gM U).mono fun e w' hh=>⟨hh.1,FsK.seq (fun k hk=>.inl hk) (ae.br (Q.drew w6)) hh.2⟩
  have FK:=Hd vw;have M7:=Hd aeu;have HPG:=Hd V9;have zK:=Hd rT;have E1:=Hd e1;have E2:=Hd e2;have bq:(aA (φ.l.eraseIdx i) tn:Int)<((φ.l.eraseIdx i).length:Int):=U;have lT:(0:Int)≤(aA (φ.l.eraseIdx i) tn:Int):=U;have hkw:IntKind.i64.wrap ((aA (φ.l.eraseIdx i) tn:Int)+1)=(aA (φ.l.eraseIdx i) tn:Int)+1:=IntWalk.i64_in _ U;clear vw aeu V9 rT e1 e2 har;unfold oN at FK;go_wp2_with fail
  (go_region_held3 (fun w'=>w'.cell? ⟨W.heap.size,0,none⟩=some (au fb)∧w'.cell? ⟨gr,aA (φ.l.eraseIdx i) tn*4,none⟩=some (ah (φ.l.eraseIdx i)[aA (φ.l.eraseIdx i) tn].name)∧w'.cell? ⟨gr,aA (φ.l.eraseIdx i) tn*4+1,none⟩=some (.bool (φ.l.eraseIdx i)[aA (φ.l.eraseIdx i) tn].sl)∧w'.cell? ⟨gr,aA (φ.l.eraseIdx i) tn*4+2,none⟩=some (.int .i64 ((φ.l.eraseIdx i)[aA (φ.l.eraseIdx i) tn].size:Nat))∧w'.cell? ⟨gr,aA (φ.l.eraseIdx i) tn*4+3,none⟩=some (.slice pr nr qr))
   (first|exact g7|exact⟨z0,m0,m1,m2,m3⟩)
   (first
    | (go_at_call 93;refine FK.out.mono ?_;rintro e w7 ⟨rfl,h7⟩;have t7:=h7.t;have g7:=And.intro (t7.cell z0 zK.out.1) (And.intro (t7.cell m0 M7.out) (And.intro (t7.cell m1 M7.out) (And.intro (t7.cell m2 M7.out) (t7.cell m3 M7.out))));have H7:=Hd h7;have T7:=Hd t7;clear h7 t7)))
  obtain⟨z7,_⟩:=g7;obtain⟨G7,x1,x2,x3⟩:=H7.out;have hW6:W.heap.size≤w6.heap.size:=lG.out.size;have hAW:W.heap.size≤wa.heap.size:=QA.out.size;have hAY:=qQ.out;have h7:∀k,own G7 fb k→own G fb k∨w6.heap.size≤k∧k<w7.heap.size:=fun k hk=>by
   rcases hk with hk|hk
   ·exact(x2 k hk).imp .inl id
   ·exact .inl (.inr hk)
  have ZX:∀k,Pw G fb W k→¬own G7 fb k:=fun k hk hc=>by
   have:=hk.2;rcases h7 k hc with h|h
   ·exact hk.1 h
   ·omega
  have uh:¬own G7 fb gr:=fun hc=>by
   rcases h7 gr hc with h|h
   ·exact M7.out h
   ·omega
  have xQ:¬own G7 fb W.heap.size:=fun hc=>by
   rcases h7 _ hc with h|h
   ·exact zK.out.1 h
   ·omega
  have qM:¬own G7 fb wa.heap.size:=fun hc=>by
   rcases h7 _ hc with h|h
   ·exact zK.out.2 h
   ·omega
  have hF7:=ZY.out.bh T7.out (fun k hk=>hk.1) (fun g hg=>by
   have e:gr=g:=by simpa[Value.ownBlock] using hg
   rw[←e];exact M7.out)
  have aev:=Dm hF7 (fun k hk=>Ψ hk.2 QY.out.size) qp _ oq
  have hA7:=HA6.out.bh T7.out (fun k hk=>hk.1)
  have hR7:=OV.out.bh T7.out (fun k hk=>hk.1)
  have hB7:=T7.out.blk RY.out zK.out.2;have Yu:Calls prog 92 #[.slice (some ⟨gr,0,none⟩) (φ.l.eraseIdx i).length cr,.int .i64 (aA (φ.l.eraseIdx i) tn:Nat),.int .i64 ((aA (φ.l.eraseIdx i) tn:Int)+1)] w7 fun e w8=>∃v8,e=.returned v8∧v8.ownBlock=some gr∧Hid (cE (Pw G fb W) w8 wy.heap.size v8 ((φ.l.eraseIdx i).eraseIdx (aA (φ.l.eraseIdx i) tn)))∧Hid (ae (fun k=>gr=k) w7 w8):=aev.mono fun e w8 hh=>by
   obtain⟨v8,r1,r2,r3,r4⟩:=hh;exact⟨v8,r1,r2,Hd r3,Hd (r4.mono fun k hk=>by simpa[Value.ownBlock] using hk)⟩
  have aiM:=Hd Yu;have HA7:=Hd hA7;have OW:=Hd hR7;have Ju:=Hd hB7;have X1:=Hd x1;have X2:=Hd x2;have HP7:=Hd ZX;have HG7:=Hd uh;have HN0:=Hd xQ;have fZ:=Hd qM;have HH7:=Hd h7;clear Yu hA7 hR7 hB7 x1 x2 x3 ZX uh xQ qM aev hF7 h7;go_wp2_with fail;refine aiM.out.mono ?_;rintro e w8 ⟨v8,rfl,hob,F8',T8'⟩;have tt:ae (fun k=>gr=k) w7 w8:=T8'.out
  have z0:=tt.cell z7 (fun hc=>by have h9:gr=W.heap.size:=hc;omega)
  have hB8:=tt.blk Ju.out (fun hc=>by have h9:gr=wa.heap.size:=hc;omega)
  have hx8:=FsG.off X1.out tt (fun k hk hc=>HG7.out (by rw[show gr=k from hc];exact hk)) OW.out (fun k hk hc=>by have h9:gr=k:=hc;have:=hk.2;omega) HP7.out
  have hA8:=HA7.out.bh tt (fun k hk hc=>by have h9:gr=k:=hc;have:=hk.2;omega)
  have hR8:=OW.out.bh tt (fun k hk hc=>by have h9:gr=k:=hc;have:=hk.2;omega)
  have amO:=tt.size;have aiN:(eZ (φ.l.eraseIdx i) tn).length≤1000:=by rw[E2.out];exact LS (adO ..) qp
  have YP:=pd (w:=w) (W:=W) (X:=w6) (w7:=w8) (F:=F) (G:=G) (G7:=G7) (fb:=fb) (sb:=sb) (b:=b) (φ:={ φ with st:=(φ.st.bo (jg (φ.l.eraseIdx i) tn)).1 }) (K:=K+32) (v7:=v8) (base:=wy.heap.size) (l2:=eZ (φ.l.eraseIdx i) tn) (f:=φ.l[i].named tn) (av:=.slice ap am ac) FH.out H2.out H3.out lG.out hx8 (fun k hk=>(X2.out k hk).imp id fun hk=>⟨hk.1,U⟩)
   ⟨tt.os.trans T7.out.os,tt.tape.trans T7.out.tape,tt.output.trans T7.out.output,by have:=T7.out.size;omega,fun k hk hn=>(tt.block k (by have:=T7.out.size;omega) (fun hc=>hn (.inr (by have h9:gr=k:=hc;omega)))).trans (T7.out.block k hk (fun hc=>hn (.inl hc)))⟩
   (by rw[E2.out];exact F8'.out) QY.out.size RG (fun g' Ph=>by rw[hob] at Ph;simp only[M3] at Ph;omega) aiN hA8 hR8 HD.out HS.out gM hp U
  have ZC:=Hd hB8;clear hx8 hA8 hR8 hB8 tt;obtain⟨xY,zG⟩:=YP;rw[show(φ.l[i].named tn).name=tn from rfl,Ls tn _ (xO.out.sublist (Se _ _))] at xY
  have D7:=Hd xY;have fG:=Hd zG;clear xY zG;obtain⟨b0,b1,b2,b3,_⟩:=ZC.out.c4;have b0d:=aj ((Q.alloc w8 (.cells #[ah tn,.bool φ.l[i].sl,.int .i64 (φ.l[i].size:Nat),.slice ap am ac] 48)).trans (Q.drew _)) b0;go_wp2_with fail
  (go_region_held3 (fun w'=>w'.cell? ⟨W.heap.size,0,none⟩=some (au fb)∧w'.cell? ⟨wa.heap.size,0,none⟩=some (ah tn)∧w'.cell? ⟨wa.heap.size,1,none⟩=some (.bool φ.l[i].sl)∧w'.cell? ⟨wa.heap.size,2,none⟩=some (.int .i64 (φ.l[i].size:Nat))∧w'.cell? ⟨wa.heap.size,3,none⟩=some (.slice ap am ac))
   (first|exact g9|exact g8|exact⟨z0,b0,b1,b2,b3⟩|exact five (by repeat (first|with_reducible exact Q.refl _|with_reducible apply Qs.dr|with_reducible apply Qs.al)) z0 b0 b1 b2 b3)
   (first
    | (go_at_call 72;refine D7.out.mono ?_;rintro e w8 ⟨v8,rfl,F8,t8⟩;have g8:=And.intro (t8.cell z0 (fun hc=>by have:=hc.1;simp only[] at this;omega)) (And.intro (t8.cell b0 (fun hc=>by have:=hc.1;simp only[] at this;omega)) (And.intro (t8.cell b1 (fun hc=>by have:=hc.1;simp only[] at this;omega)) (And.intro (t8.cell b2 (fun hc=>by have:=hc.1;simp only[] at this;omega)) (t8.cell b3 (fun hc=>by have:=hc.1;simp only[] at this;omega)))));have T8:=Hd t8;clear t8)
    | (go_at_call 71;refine(fG.out _ _ T8.out F8.out).mono ?_;rintro e w9 ⟨rfl,f9,t9⟩;have g9:=And.intro (t9.cell g8.1 HN0.out) (And.intro (t9.cell g8.2.1 fZ.out) (And.intro (t9.cell g8.2.2.1 fZ.out) (And.intro (t9.cell g8.2.2.2.1 fZ.out) (t9.cell g8.2.2.2.2 fZ.out))));have F9:=Hd (f9.mono (show K+32+12≤K+44 by omega));clear t9 f9)))
  all_goals
   go_wp2_with fail;go_ret;exact⟨rfl,F9.out⟩
end
section
open Go.RowKit
section
variable {KI:Nat} {φ:FsL} {fr:List (List WrL)} {C:Nat→Bytes}
theorem bz.IT(h:bz KI φ fr C)(i:Nat)(tn:Bytes):kh KI φ.st.begin.1 fr C (jg (φ.l.eraseIdx i) tn)∧(jg (φ.l.eraseIdx i) tn).length≤16∧eE KI (φ.st.begin.1.bo (jg (φ.l.eraseIdx i) tn)).1 fr C∧(φ.st.begin.1.bo (jg (φ.l.eraseIdx i) tn)).2=0∧(φ.st.begin.1.bo (jg (φ.l.eraseIdx i) tn)).1.n=φ.st.n:=by
 cases hx:isF (φ.l.eraseIdx i) tn with
 | false =>
  have e:jg (φ.l.eraseIdx i) tn=[]:=by unfold jg;rw[hx];rfl
  obtain⟨ht,h0,h1⟩:=h.start;rw[e];exact⟨⟨ht.st,ht.op,by unfold fO;rw[h0];simp,κ,by simp[aT],by simp[aT]⟩,κ,h.Fo,rfl,fq ht.j⟩
 | true =>
  obtain⟨hk,_⟩:=zo hx;have e:jg (φ.l.eraseIdx i) tn=(φ.l.eraseIdx i)[aA (φ.l.eraseIdx i) tn].ext:=by unfold jg;rw[hx,Φ rfl,LN hk];rfl
  have hm:(φ.l.eraseIdx i)[aA (φ.l.eraseIdx i) tn]∈φ.l:=Ts (LO hk);rw[e];obtain⟨a,b,c⟩:=h.pM _ hm;exact⟨h.Ks _ hm,(h.good.ok.ok _ hm).few,a,b,c⟩
end
theorem Ji(w:World)(F:Nat→Prop)(fb sb b:Nat)(φ:FsL)(K:Nat)(v:Value)(s tn:Bytes)(h:FsG w F fb sb b φ K v)(hI:FOk φ)(hK:K+200≤1000000000000000000)(ht:tn.length≤1000000):
  Calls prog 21 #[au fb,ah s,ah tn] w fun e w'=>e=.returned (.int .i64 (φ.rename s tn).2)∧FsR w w' F fb sb b (φ.rename s tn).1 (K+100):=by
 have eP:=wB s h hI.find;have qO:=fun W=>EH tn W U
 have hk:∀W,Q w W→FsR w W F fb sb b φ (K+100):=fun W q=>(((FsK.of h).q q).mono U).r
 have hc:φ.rename s tn=if φ.dj s≠0 then(φ,φ.dj s) else if iM tn=false then(φ,12) else if s=tn then(φ,0) else φ.cq (r9 φ (aA φ.l s) (φ.at9 s) tn):=rfl
 have pF:φ.dj s=if φ.st.dead then 4 else if isF φ.l s then 0 else 10:=rfl
 have jV:φ.st.dead=false→isF φ.l s=true→iM tn=true→∀W,Q w W→Calls prog 30 #[au fb,.func (.func 46) #[.agg #[au fb,.int .i64 (aA φ.l s:Nat),ah tn]] #[]] W fun e w'=>e=.returned (.int .i64 (φ.cq (r9 φ (aA φ.l s) (φ.at9 s) tn)).2)∧FsR w w' F fb sb b (φ.cq (r9 φ (aA φ.l s) (φ.at9 s) tn)).1 (K+100):=fun h1 h2 h3 W q=>by
  rcases hI with hd|⟨_,KI,fr,C,hI,gM⟩
  ·rw[h1] at hd;cases hd
  ·have hlen:=hI.len
   obtain⟨hp,_⟩:=zo h2;rw[DV φ s hp];obtain⟨hr,hx,hs,hz,hn⟩:=hI.IT (aA φ.l s) tn;refine(Dn W F fb sb b φ K v (r9 φ (aA φ.l s) φ.l[aA φ.l s] tn) _ _ (φ.st.begin.1.bo (jg (φ.l.eraseIdx (aA φ.l s)) tn)).1 (jE (eZ (φ.l.eraseIdx (aA φ.l s)) tn) (φ.l[aA φ.l s].named tn)) (h.keep q) gM hs (enters_of func46 (by kernel_rfl) rfl) (by unfold r9;rw[η (by simpa using hz)]) (fun X hX=>?_)).mono fun e w' hx=>⟨hx.1,FsR.seq (fun k hk=>.inl hk) (ae.br q) hx.2⟩
   exact(Rc W X F fb sb b { φ with st:=φ.st.begin.1 } K v (aA φ.l s) hp tn hX (LS hlen Z) hI.rise hx (first:=ak φ.st.n+12) hr (by rw[hn];exact XD hI _ hp tn h3) hs U (.inr hI.eJ) U).mono fun e w' hx=>⟨hx.1,hx.2.mono U⟩
 rw[hc,pF];have iW:=Hd eP;have HK:=Hd hk;have xP:=Hd jV;have JI:=Hd qO;clear eP hk hc jV h hI pF qO;generalize hD:φ.cq (r9 φ (aA φ.l s) (φ.at9 s) tn)=D at *;clear hD;generalize φ.st.dead=dd at *;generalize isF φ.l s=isf at *;generalize iM tn=ok at *;generalize aA φ.l s=pl at *;go_enter func21,ntmps21;go_wp2_with fail;refine iW.out.mono ?_;rintro e w1 ⟨rfl,q1⟩;have Q1:=Hd q1;clear q1;cases dd
 ·cases isf
  ·simp only[M2,ON,PM]
   go_wp2_with fail;go_ret;exact⟨rfl,HK.out _ Q1.out⟩
  ·simp only[M2,ON,PM]
   go_wp2_with fail;refine(JI.out _).mono ?_;rintro e w2 ⟨rfl,q2⟩;have Q2:=Hd (Q1.out.trans q2);clear q2;cases ok
   ·simp only[M2,ON,PM]
    go_wp2_with fail;go_ret;exact⟨rfl,HK.out _ Q2.out⟩
   ·have jV:=xP.out (by first|trivial|rfl) (by first|trivial|rfl) (by first|trivial|rfl) _ Q2.out
    have HD:=Hd jV;clear jV;by_cases aC:s=tn
    ·have hb:(s==tn)=true:=by simpa using aC
     have HS:=Hd aC;clear aC;go_wp2_with fail;go_ret;simp only[M2,WG,ON,PM,HS.out,ne_eq,not_true_eq_false];exact⟨rfl,HK.out _ Q2.out⟩
    ·have hb:(s==tn)=false:=by simpa using aC
     have HS:=Hd aC;clear aC;go_wp2_with fail;refine HD.out.mono ?_;rintro e w3 ⟨rfl,h3⟩;have H3:=Hd h3;clear h3;go_wp2_with fail;go_ret;simp only[M2,WG,ON,PM,η HS.out,ne_eq,not_true_eq_false];exact⟨rfl,H3.out⟩
 ·simp only[PM]
  go_wp2_with fail;go_ret;exact⟨rfl,HK.out _ Q1.out⟩
end
section
open Go.RowKit
theorem IA(first n:Nat):cN first n []:=⟨L0 _,List.Pairwise.nil,fun f hf=>by simp at hf,ac1⟩
theorem U9(w W:World)(F:Nat→Prop)(fb sb b:Nat)(φ:FsL)(K:Nat)(v:Value){KI:Nat}{fr:List (List WrL)}{C:Nat→Bytes}(h:FsK w W F fb sb b φ K v)(hn:iL φ.st)(jy:(φ.st.alloc 12).2.2=0)(hs:eE KI (φ.st.alloc 12).1 fr C)(gM:KI<18446744073709551616)(hp:φ.packed=[]∨φ.packed.length=3072)(hK:K+40≤1000000000000000000):
  Calls prog 95 #[au fb] W fun e w'=>e=.returned (.int .i64 ((φ.st.alloc 12).1.dir φ.packed []).2)∧FsR w w' F fb sb b (FsL.wr { φ with st:=(φ.st.alloc 12).1 } []) (K+14):=by
 have Bp:Calls prog 140 #[au sb,.int .i64 12] W fun e w'=>e=.returned (.tuple #[.int .i64 (φ.st.alloc 12).2.1,.int .i64 0])∧FsK w w' F fb sb b { φ with st:=(φ.st.alloc 12).1 } (K+2) v:=h.call (fun G hg=>(K8 W G sb b φ.st K 12 hg hn U).mono fun e w' hx=>⟨by rw[←jy];exact hx.1,hx.2⟩)
 have jB:∀X,FsK w X F fb sb b { φ with st:=(φ.st.alloc 12).1 } (K+2) v→Calls prog 71 #[au fb,.slice none 0 0] X fun e w'=>e=.returned (.int .i64 ((φ.st.alloc 12).1.dir φ.packed []).2)∧FsR w w' F fb sb b (FsL.wr { φ with st:=(φ.st.alloc 12).1 } []) (K+14):=fun X q=>by
  obtain⟨G,g1,g2,g3⟩:=q;exact(Aw X G fb sb b { φ with st:=(φ.st.alloc 12).1 } (K+2) v (.slice none 0 0) [] (first:=0) g1 (ci.nil _ _ 0) (IA _ _) hs gM hp U).mono fun e w' hx=>⟨hx.1,FsR.seq g2 g3 hx.2⟩
 obtain⟨c0,_⟩:=h.cells;have VY:=Hd Bp;have vC:=Hd jB;clear Bp jB h hn jy hs;go_enter func95,ntmps95;go_wp2_with fail;refine VY.out.mono ?_;rintro e w1 ⟨rfl,h1⟩;have hw:=vC.out w1 h1;have HW:=Hd hw;clear h1 hw;go_wp2_with fail;refine HW.out.mono ?_;rintro e w2 ⟨rfl,h2⟩;have H2:=Hd h2;clear h2;go_wp2_with fail;go_ret;exact⟨rfl,H2.out⟩
theorem FsR.dev{w w':World}{F:Nat→Prop}{fb sb b:Nat}{φ:FsL}{K:Nat}(h:FsR w w' F fb sb b φ K):∃G:Nat→Prop,cF w' G b φ.st.j.d∧(∀k,G k→grow F w w' k)∧ae (own F fb) w w':=by
 obtain⟨G,⟨v,h1⟩,h2,h3⟩:=h;obtain⟨FJ,FC,p,cb,tb,most,clock,ms,mb,m,ti,hg,hF,_⟩:=h1.st;exact⟨FJ,hg.jr.dev,fun k hk=>h2 k (hF k (.inl hk)),h3⟩
theorem FsG.new{w:World}{F:Nat→Prop}{sb b:Nat}{σ:StL}{K:Nat}(h:ce w F sb b σ K):FsG (w.alloc (.cells #[au sb,au b,.slice none 0 0,ah []] 72)) F w.heap.size sb b ⟨σ,[],[]⟩ K (.slice none 0 0) :=
 ⟨h.keep (Q.alloc _ _),Blk.new w _ _,fun hc=>by have:=h.lt _ hc;omega,ci.nil _ _ 0⟩
theorem Va(w:World)(F:Nat→Prop)(b n:Nat)(h:cF w F b (af.new n))(hF:∀k,F k→k<w.heap.size)(h1:128≤n)(h2:n≤4096):
  Calls prog 48 #[au b] w fun e w'=>e=.returned (.int .i64 0)∧(∃G:Nat→Prop,cF w' G b (fE n).st.j.d∧∀k,G k→grow F w w' k)∧ae F w w':=by
 obtain⟨hz,L6,hi,kr,_,vk⟩:=BO n h1 h2;obtain⟨_,hf,hl,bQ,_,_,_,bW⟩:=Dg n h1 h2;obtain⟨r1,r2,r3,r4,⟨fr,C,r5⟩,r6,r7,σ2,r8⟩:=MS n h1 h2;obtain⟨b0,ht,h0,kF⟩:=yG hi rfl;have uf:(bf n).begin.1.n=n:=(fq ht.j).trans kr;have ny:fO (bf n).begin.1:=by unfold fO;rw[h0];simp
 have D6:=UU w F b n h hF h1 h2;have fB:=fun (W:World) (F:Nat→Prop) (h:cF W F b (fH (af.new n)).1) (hF:∀k,F k→k<W.heap.size)=>QH W F b (fH (af.new n)).1 64 h hF bQ (fun _=>U) U L6
 have jV:∀(W:World) (G:Nat→Prop) (fb sb:Nat),FsG W G fb sb b (φ0 n) 0 (.slice none 0 0)→Calls prog 30 #[au fb,.func (.func 95) #[au fb] #[]] W fun e w'=>e=.returned (.int .i64 0)∧FsR W w' G fb sb b (fE n) 100:=fun W G fb sb hg=>by
  have lK:ak n+12≤n:=by unfold ak aD;omega
  have lS:fK (bf n).begin.1.ai 12 (bf n).begin.1.n=some (ak n):=by
   rw[kF,vk,uf];exact Ce _ _ _ _ Z lK (fun i hi=>by rw[tJ n h1 h2];exact MM hi) (fun i hi _=>by rw[tJ n h1 h2];exact Mz U)
  have jy:=AY ht.st ht.op ny 12 Z;rw[lS] at jy;obtain⟨a1,a2,a3,a4⟩:=jy;obtain⟨t0,t1,t2,t3,t4,t5⟩:=yF ht.st ht.op ny (ak n) 12 true a2 a3;have tX:((bf n).begin.1.bh (ak n) 12 true).1.n=n:=(fq t4).trans uf;have GK:∀i,i<12→bit ((bf n).begin.1.bh (ak n) 12 true).1.ai (ak n+i)=true:=fun i hi=>by
   rw[t1,Φ U]
  have a1':(bf n).begin.1.alloc 12=(((bf n).begin.1.bh (ak n) 12 true).1,(ak n:Int),0):=a1;have hs:eE 5 ((bf n).begin.1.alloc 12).1 [] (bT (fun _=>ag) (bE n)):=by
   rw[a1'];exact⟨t2,t3,LS (qY t2 t5) Z,by rw[tX];exact lK,fun i hi=>by rw[tX];exact GK i hi⟩
  have aW:((bf n).begin.1.alloc 12).2.2=0:=by rw[a1']
  refine(Dn W G fb sb b (φ0 n) 0 _ (xw (φ0 n)) _ _ ((bf n).begin.1.alloc 12).1 [] hg (KI:=5) Z hs (enters_of func95 (by kernel_rfl) rfl) (by show xw (φ0 n) (bf n).begin.1=_;unfold xw;rw[η (by rw[aW];decide)]) (fun X hX=>?_)).mono fun e w' hx=>⟨by rw[←r1];exact hx.1,hx.2⟩
  exact(U9 W X G fb sb b { (φ0 n) with st:=(bf n).begin.1 } 0 _ hX (cg.num (K:=5) ht.st Z) aW hs Z (.inl rfl) Z).mono fun e w' hx=>⟨hx.1,hx.2.mono Z⟩
 have HF:=Hd D6;have HO:=Hd fB;have xP:=Hd jV;clear D6 fB jV hz L6 hi kr vk hf hl bQ bW r1 r2 r3 r4 r5 r6 r7 r8 b0 ht h0 kF uf ny h;have iI:=Hd hF;clear hF;go_enter func48,ntmps48;go_wp2_with fail;refine HF.out.mono ?_;rintro e w1 ⟨rfl,Bu,t1⟩;have ho:=HO.out w1 _ Bu (fun k hk=>hk.elim (fun hk=>Ψ (iI.out k hk) t1.size) (fun hk=>hk.2))
 have Ht:=Hd ho;have T1:=Hd t1;clear ho Bu t1;go_wp2_with fail;refine Ht.out.mono ?_;rintro e w2 ⟨sb,rfl,zW,t2⟩;have lW:=xP.out _ _ _ _ (FsG.new zW);have HDD:=Hd lW;have T2:=Hd t2;have H2:=Hd zW;clear lW t2 zW;go_wp2_with fail;refine HDD.out.mono ?_;rintro e w3 ⟨rfl,h3⟩;have H3:=Hd h3;clear h3;go_wp2_with fail;go_ret;refine⟨rfl,?_⟩;obtain⟨G,g1,g2,g3⟩:=H3.out.dev;have s1:=T1.out.size;have s2:=T2.out.size;have s3:=g3.size;have sa:(w2.alloc (.cells #[au sb,au b,.slice none 0 0,ah []] 72)).heap.size=w2.heap.size+1:=World.size_alloc ..;refine⟨⟨G,g1,fun k hk=>?_⟩,?_⟩
 ·rcases g2 k hk with (((hk|hk)|hk))|hk
  ·exact .inl hk
  ·exact .inr ⟨hk.1,U⟩
  ·exact .inr ⟨U,U⟩
  ·exact .inr ⟨U,hk.2⟩
 ·refine⟨g3.os.trans (T2.out.os.trans T1.out.os),g3.tape.trans (T2.out.tape.trans T1.out.tape),g3.output.trans (T2.out.output.trans T1.out.output),U,fun k hk hn=>?_⟩
  refine(g3.block k U (fun hc=>?_)).trans (((Q.alloc w2 _).block k U).trans ((T2.out.block k U (fun hc=>?_)).trans (T1.out.block k hk hn)))
  ·rcases hc with ((hc|hc)|hc)|hc
   ·exact hn hc
   ·omega
   ·omega
   ·omega
  ·rcases hc with hc|hc
   ·exact hn hc
   ·omega
abbrev inE(e u:Nat×Nat):Bool:=decide (u.1≤e.1∧e.1+e.2≤u.1+u.2)
theorem XE(e u:Nat×Nat)(B:Nat)(w:World)(hb:Blk w B 87 #[.int .i64 (e.1:Nat),.int .i64 (e.2:Nat)])(he:e.1+e.2≤1000000)(hu:u.1+u.2≤1000000):
  Calls prog 44 #[.agg #[.int .i64 (u.1:Nat),.int .i64 (u.2:Nat)],.pointer (some ⟨B,0,none⟩)] w fun x w'=>x=.returned (.bool (inE e u))∧Q w w':=by
 obtain⟨e1,e2⟩:=e;obtain⟨u1,u2⟩:=u;simp only[] at *;have qa:=Q.alloc w (.cells #[.int .i64 (u1:Nat),.int .i64 (u2:Nat)] 87);have bN:=hb.stays qa;have hx:=Blk.new w 87 #[.int .i64 (u1:Nat),.int .i64 (u2:Nat)];obtain⟨c0,c1,_⟩:=bN.c2;obtain⟨d0,d1,_⟩:=hx.c2;have w1:IntKind.i64.wrap ((e1:Int)+(e2:Int))=(e1:Int)+(e2:Int):=IntWalk.i64_in _ U;have w2:IntKind.i64.wrap ((u1:Int)+(u2:Int))=(u1:Int)+(u2:Int):=IntWalk.i64_in _ U;have QA:=Hd qa;clear qa bN hx hb;by_cases h1:u1≤e1
 ·have g1:(u1:Int)≤(e1:Int):=U
  by_cases h2:e1+e2≤u1+u2
  ·have g2:(e1:Int)+(e2:Int)≤(u1:Int)+(u2:Int):=U
   have hr:inE (e1,e2) (u1,u2)=true:=MM ⟨h1,h2⟩;rw[hr];clear hr;go_enter func44,ntmps44;go_wp2_with fail;go_ret;exact⟨rfl,QA.out⟩
  ·have g2:¬(e1:Int)+(e2:Int)≤(u1:Int)+(u2:Int):=U
   have hr:inE (e1,e2) (u1,u2)=false:=Mz (fun h=>h2 h.2)
   rw[hr];clear hr;go_enter func44,ntmps44;go_wp2_with fail;go_ret;exact⟨rfl,QA.out⟩
 ·have g1:¬(u1:Int)≤(e1:Int):=U
  have hr:inE (e1,e2) (u1,u2)=false:=Mz (fun h=>h1 h.1)
  rw[hr];clear hr;go_enter func44,ntmps44;go_wp2_with fail;go_ret;exact⟨rfl,QA.out⟩
theorem XF(e:Nat×Nat)(B:Nat)(v:Value)(us:List (Nat×Nat))(w:World)(h:Sl w v us.length 2 (ext us))(hb:Blk w B 87 #[.int .i64 (e.1:Nat),.int .i64 (e.2:Nat)])(he:e.1+e.2≤1000000)(hu:∀u∈us,u.1+u.2≤1000000)(hl:us.length≤100000)(hx:∃u∈us,inE e u=true):
  Calls prog 90 #[v,.func (.func 44) #[] #[.pointer (some ⟨B,0,none⟩)]] w fun x w'=>(∃z:Nat,x=.returned (.int .i64 (z:Nat))∧z≤100000)∧Q w w':=by
 obtain⟨a,cap,rfl,hc⟩:=jS h;have bL:=fun (k:Nat) (hk:k<us.length) (W:World) (q:Q w W)=>XE e us[k] B W (hb.stays q) he (hu _ (LO hk))
 have hend:(∀k (hk:k<us.length),inE e us[k]=false)→False:=fun hn=>by
  obtain⟨u,hm,hi⟩:=hx;obtain⟨k,hk,rfl⟩:=PH hm;rw[hn k hk] at hi;cases hi
 have eg:∀args w,(callFunc 44 args).run prog w=.ok (.enter 44 args) w:=enters_of func44 (by kernel_rfl) rfl
 have HC:=Hd hc;have p8:=Hd bL;have Dy:=Hd hend;clear hc bL hend h hb hx hu;go_enter func90,ntmps90;go_wp2_with fail;go_loopw [8] (fun i wr=>∃k:Nat,i=.int .i64 (k:Nat)∧k≤us.length∧Hid (∀j (hj:j<us.length),j<k→inE e us[j]=false)∧Hid (Q w wr)) (fun i _=>us.length-(intOf i).toNat)
 case atStart=>exact⟨0,rfl,L0 _,Hd (fun j _ hj=>U),Hd (Q.refl _)⟩
 case round =>
  obtain⟨k,rfl,hk,HN,HQ⟩:=hrel;by_cases ay:k<us.length
  ·have bq:(k:Int)<(us.length:Int):=U
   have lT:(0:Int)≤(k:Int):=U;obtain⟨b,off,rfl,hd⟩:=HC.out U;obtain⟨c0,c1⟩:=hd k ay;replace c0:=aj HQ.out c0;replace c1:=aj HQ.out c1;have bL:=p8.out k ay wr HQ.out;have HL:=Hd bL;clear hd bL;obtain⟨r,hr⟩:∃r,r=inE e us[k]:=⟨_,rfl⟩;rw[←hr] at HL;have HR:=Hd hr;have Ag:∀j (hj:j<us.length),j=k→inE e us[j]=r:=fun j hj OC=>by subst OC;exact hr.symm
   have Zz:=Hd Ag;clear hr Ag;generalize hy:us[k]=y at *;clear hy;go_wp2_with fail;refine HL.out.mono ?_;rintro x w2 ⟨rfl,q2⟩;have Q2:=Hd (HQ.out.trans q2);clear q2;cases r
   ·go_wp2_with fail
    go_roundw;case rel=>exact⟨k+1,by go_num,ay,Hd (fun j hj OC=>by
     rcases adq j k with h|h
     ·exact HN.out j hj h
     ·exact Zz.out j hj U),Q2⟩
    case measure=>simp[intOf];omega
   ·go_wp2_with fail
    go_ret;exact⟨⟨k,rfl,U⟩,Q2.out⟩
  ·exact(Dy.out (fun j hj=>HN.out j hj U)).elim
theorem PU(e:Nat×Nat)(B:Nat)(v:Value)(us:List (Nat×Nat))(w:World)(h:Sl w v us.length 2 (ext us))(hb:Blk w B 87 #[.int .i64 (e.1:Nat),.int .i64 (e.2:Nat)])(he:e.1+e.2≤1000000)(hu:∀u∈us,u.1+u.2≤1000000)(hl:us.length≤100000)(hx:∃u∈us,inE e u=true):
  Calls prog 43 #[v,.func (.func 44) #[] #[.pointer (some ⟨B,0,none⟩)]] w fun x w'=>x=.returned (.bool true)∧Q w w':=by
 have hi:=XF e B v us w h hb he hu hl hx;obtain⟨a,cap,rfl,_⟩:=jS h;have HI:=Hd hi;clear hi h hb hx hu;go_enter func43,ntmps43;go_wp2_with fail;refine HI.out.mono ?_;rintro x w1 ⟨⟨z,rfl,hz⟩,q1⟩;have Q1:=Hd q1;clear q1;have bY:(0:Int)≤(z:Int):=U;go_wp2_with fail;go_ret;exact⟨rfl,Q1.out⟩
end
end Go.Proofs.YtbkahhebmpehnaaGreatDoor
