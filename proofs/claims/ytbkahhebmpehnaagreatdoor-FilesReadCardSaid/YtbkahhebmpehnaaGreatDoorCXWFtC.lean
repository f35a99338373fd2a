/- Joined: WFtC to Wld9 -/
import Derived.Test.YtbkahhebmpehnaaGreatDoorCXWFsY
set_option linter.all false
set_option maxRecDepth 100000
set_option maxHeartbeats 8000000
namespace Go.Proofs.YtbkahhebmpehnaaGreatDoor
open Go.Proofs.Tryz
section
open Go.RowKit
theorem Fs{w w':World}(q:Q w w'){a0 a1 a2 a3:Addr}{v0 v1 v2 v3:Value}(h0:w.cell? a0=some v0)(h1:w.cell? a1=some v1)(h2:w.cell? a2=some v2)(h3:w.cell? a3=some v3):
  w'.cell? a0=some v0∧w'.cell? a1=some v1∧w'.cell? a2=some v2∧w'.cell? a3=some v3:=⟨aj q h0,aj q h1,aj q h2,aj q h3⟩
theorem rI(σ:StL)(f:ax)(hl:∀i∈aT f.ext,(σ.get i).length=256)(hn:f.bl.length=cB f.size):(((aT f.ext).flatMap σ.get).drop (f.size / 256*256)).take (f.size%256)=iY σ f:=by
 unfold iY;by_cases hz:f.size%256=0
 ·rw[Φ hz,hz,R0]
 ·rw[η hz]
  have ay:f.size / 256<f.bl.length:=by rw[hn];unfold cB;omega
  have h:=pg σ.get (aT f.ext) (f.size / 256) 0 (f.size%256) ay hl U;rw[UI,UX] at h;rw[h,QQ,getD_at _ ay];rfl
theorem Oc(σ:StL)(f:ax)(hl:∀i∈aT f.ext,(σ.get i).length=256)(hn:f.bl.length=cB f.size):(iY σ f).length=f.size%256:=by
 unfold iY;split
 ·rename_i hz;rw[hz];rfl
 ·have ay:f.size / 256<f.bl.length:=by rw[hn];unfold cB;omega
  rw[L4,getD_at _ ay,hl _ (LO ay)];omega
structure JP (KI:Nat) (φ:FsL) (fr:List (List WrL)) (C:Nat→Bytes) (first:Nat) (i:Nat) (f:ax) (d:Bytes) (g:StL×Int×List (Nat×Nat)):Prop where
 num:iL φ.st
 live:φ.st.dead=false
 few:f.ext.length≤16
 rng:∀e∈f.ext,1≤e.2∧0≤e.1∧e.1+e.2≤φ.st.n
 blk:∀k∈aT f.ext,φ.st.cQ (k:Nat)=true∧(φ.st.get k).length=256
 need:f.bl.length=cB f.size
 size:f.size+d.length≤2147483647
 len:d.length≤6000
 some:d≠[]
 gr:GrI KI φ.st fr C
 grown:φ.st.grow f.ext (cB (f.size+d.length)-f.bl.length)=g
 res:g.2.1=9∨g.2.1=0∧g.2.2.length≤16∧(∀e∈g.2.2,e.1+e.2≤4096)∧(aT g.2.2).length=cB (f.size+d.length)∧kq KI φ.st.n g.1 fr C ((aT g.2.2).drop (f.size / 256)) (iY φ.st f++d)∧eE KI (g.1.writes (dU ((aT g.2.2).drop (f.size / 256)) (iY φ.st f++d))).1 fr C∧cN first φ.st.n (φ.l.set i (dW f d g.2.2))
structure ApS (w W w2:World) (F G G1:Nat→Prop) (fb sb b:Nat) (φ:FsL) (K:Nat) (v:Value) (XB:Nat) (a0 a1 a2 ev:Value) (i:Nat) (d:Bytes):Prop where
 g:FsG w2 G1 fb sb b φ K v
 sub:∀k,own G1 fb k→own G fb k∨W.heap.size<k
 gr:∀k,G1 k→grow F w w2 k
 t:ae (own F fb) w w2
 box:Blk w2 XB 48 #[a0,a1,a2,ev]
 nx:¬own G1 fb XB
 arg:Blk w2 W.heap.size 78 #[au fb,.int .i64 (i:Nat),ah d]
 rows:ci (Pw G fb W) w2 v φ.l
 xlo:W.heap.size<XB
 wlo:w.heap.size≤W.heap.size
 low:∀k,own G fb k→k<W.heap.size
section
variable {w W w2 w3:World} {F G G1 G2 T:Nat→Prop} {fb sb b:Nat} {φ φ':FsL} {K K':Nat} {v:Value} {XB:Nat} {a0 a1 a2 ev b0 b1 b2 b3:Value} {i:Nat} {d:Bytes}
theorem ApS.next(h:ApS w W w2 F G G1 fb sb b φ K v XB a0 a1 a2 ev i d)(t:ae T w2 w3)(hT:∀k,T k→own G1 fb k∨k=XB)(hg:FsG w3 G2 fb sb b φ' K' v)(hl:φ'.l=φ.l)(Ig:∀k,G2 k→G1 k∨w2.heap.size≤k∧k<w3.heap.size)(hb:Blk w3 XB 48 #[b0,b1,b2,b3]):ApS w W w3 F G G2 fb sb b φ' K' v XB b0 b1 b2 b3 i d:=by
 have Ac:=h.xlo;have D9:=h.wlo;have dZ:=h.box.lt;have hs:=t.size;have wO:=h.t.size;have hT2:∀k,T k→own G fb k∨W.heap.size<k:=fun k hk=>(hT k hk).elim (h.sub k) (fun e=>.inr U)
 refine⟨hg,fun k hk=>?_,fun k hk=>?_,⟨t.os.trans h.t.os,t.tape.trans h.t.tape,t.output.trans h.t.output,U,fun k hk hn=>(t.block k U (fun hc=>?_)).trans (h.t.block k hk hn)⟩,hb,fun hc=>?_,t.blk h.arg (fun hc=>?_),?_,Ac,D9,h.low⟩
 ·rcases hk with hk|hk
  ·rcases Ig k hk with hk|hk
   ·exact h.sub k (.inl hk)
   ·exact .inr U
  ·exact .inl (.inr hk)
 ·rcases Ig k hk with hk|hk
  ·exact(h.gr k hk).imp id fun hk=>⟨hk.1,U⟩
  ·exact .inr ⟨U,hk.2⟩
 ·rcases hT k hc with hc|hc
  ·rcases hc with hc|hc
   ·rcases h.gr k hc with hc|hc
    ·exact hn (.inl hc)
    ·omega
   ·exact hn (.inr hc)
  ·omega
 ·rcases hc with hc|hc
  ·rcases Ig _ hc with hc|hc
   ·exact h.nx (.inl hc)
   ·omega
  ·exact h.nx (.inr hc)
 ·rcases hT2 _ hc with hc|hc
  ·have:=h.low _ hc;omega
  ·omega
 ·rw[hl]
  refine h.rows.bh t (fun k hk hc=>?_)
  rcases hT2 k hc with hc|hc
  ·exact hk.1 hc
  ·have:=hk.2;omega
theorem ApS.q(h:ApS w W w2 F G G1 fb sb b φ K v XB a0 a1 a2 ev i d)(q:Q w2 w3):ApS w W w3 F G G1 fb sb b φ K v XB a0 a1 a2 ev i d :=
 h.next (T:=fun _=>False) (ae.br q) (fun _ x=>x.elim) (h.g.keep q) rfl (fun k hk=>.inl hk) (h.box.stays q)
theorem ApS.fsk(h:ApS w W w2 F G G1 fb sb b φ K v XB a0 a1 a2 ev i d):FsK w w2 F fb sb b φ K v:=⟨G1,h.g,h.gr,h.t⟩
theorem ApS.put2(h:ApS w W w2 F G G1 fb sb b φ K v XB a0 a1 a2 ev i d)(u:Value):ApS w W (w2.setCell ⟨XB,2,none⟩ u) F G G1 fb sb b φ K v XB a0 a1 u ev i d:=by
 have t:ae (fun k=>k=XB) w2 (w2.setCell ⟨XB,2,none⟩ u):=ae.setCell (a:=⟨XB,2,none⟩) (ae.refl (fun k=>k=XB) w2) (.inl rfl) _
 refine h.next t (fun k hk=>.inr hk) ?_ rfl (fun k hk=>.inl hk) (h.box.set 2 u)
 exact FsG.off h.g t (fun k hk hc=>h.nx (by rw[←show k=XB from hc];exact hk)) h.rows (fun k hk hc=>by have:=hk.2;have:=h.xlo;have h9:k=XB:=hc;omega) (fun k hk hc=>(h.sub k hc).elim hk.1 (fun hc=>by have:=hk.2;omega))
theorem ApS.k(h:ApS w W w2 F G G1 fb sb b φ K v XB a0 a1 a2 ev i d)(hk:FsK w2 w3 G1 fb sb b φ' K' v)(hl:φ'.l=φ.l):∃G2,ApS w W w3 F G G2 fb sb b φ' K' v XB a0 a1 a2 ev i d∧(∀k,G2 k→grow G1 w2 w3 k)∧ae (own G1 fb) w2 w3:=by
 obtain⟨G2,x1,x2,x3⟩:=hk;exact⟨G2,h.next x3 (fun k hk=>.inl hk) x1 hl x2 (x3.blk h.box h.nx),x2,x3⟩
theorem ApS.grown{x:List (Nat×Nat)}(h:ApS w W w2 F G G1 fb sb b φ K v XB a0 a1 a2 ev i d)(hk:GrS w2 w3 (fun k=>G1 k∨k=XB) fb sb b φ' K' v XB b0 b1 b2 b3 x)(hl:φ'.l=φ.l):∃G2,ApS w W w3 F G G2 fb sb b φ' K' v XB b0 b1 b2 b3 i d∧SlP (fun k=>¬own G2 fb k∧k<w3.heap.size) w3 b3 x.length 2 (ext x):=by
 obtain⟨G2,x1,x2,x3,x4,x5,x6,x7,x8,x9⟩:=hk;refine⟨G2,h.next x3 (fun k hk=>?_) x1 hl (fun k hk=>?_) x6,(SlP.cx x8).strong (fun g hg=>⟨x9 g hg,(x8.lt g hg).2⟩)⟩
 ·rcases hk with (hk|hk)|hk
  ·exact .inl (.inl hk)
  ·exact .inr hk
  ·exact .inl (.inr hk)
 ·rcases x2 k hk with (hc|hc)|hc
  ·exact .inl hc
  ·exact absurd (by rw[←hc];exact .inl hk) x7
  ·exact .inr hc
theorem ApS.clear(h:ApS w W w2 F G G1 fb sb b φ K v XB a0 a1 a2 ev i d):ci (fun k=>¬own (fun k=>G1 k∨k=XB) fb k) w2 v φ.l:=h.rows.mono fun k hk _ hc=>by
 have:=hk.2;have:=h.xlo
 rcases hc with (hc|hc)|hc
 ·exact(h.sub k (.inl hc)).elim hk.1 (fun hc=>U)
 ·omega
 ·exact hk.1 (.inr hc)
end
theorem Vd(vs:List Value):∀(l:List ax) (i:Nat) (hi:i<l.length) (f:ax) (a:Value),vs.length=l.length→((((dH vs l).set (i*4) (ah f.name)).set (i*4+1) (.bool f.sl)).set (i*4+2) (.int .i64 (f.size:Nat))).set (i*4+3) a=dH (vs.set i a) (l.set i f):=by
 induction vs with
 | nil=>intro l i hi f a h;rw[←h] at hi;simp at hi
 | cons b vs ih=>intro l i hi f a h;cases l with
  | nil=>simp at hi
  | cons f0 l=>cases i with
   | zero=>rfl
   | succ i =>
    have:=ih l i (by simpa using hi) f a (by simpa using h)
    rw[show(i+1)*4=i*4+1+1+1+1 by omega,show i*4+1+1+1+1+1=(i*4+1)+1+1+1+1 by omega,show i*4+1+1+1+1+2=(i*4+2)+1+1+1+1 by omega,show i*4+1+1+1+1+3=(i*4+3)+1+1+1+1 by omega]
    simp only[dH,abZ,this]
theorem cE.setF{P:Nat→Prop}{w:World}{base g cap:Nat}{l:List ax}(h:cE P w base (.slice (some ⟨g,0,none⟩) l.length cap) l)(hP:∀k,P k→k<base)(i:Nat)(hi:i<l.length)(f:ax){a:Value}(ha:SlP P w a f.ext.length 2 (ext f.ext)):
  base≤g∧cE P ((((w.setCell ⟨g,i*4,none⟩ (ah f.name)).setCell ⟨g,i*4+1,none⟩ (.bool f.sl)).setCell ⟨g,i*4+2,none⟩ (.int .i64 (f.size:Nat))).setCell ⟨g,i*4+3,none⟩ a) base (.slice (some ⟨g,0,none⟩) l.length cap) (l.set i f):=by
 obtain⟨vs,e1,e2,e3⟩:=h;have ay:=e2.lt g rfl;have s0:=(e2.stored (i*4) (ah f.name)).1;have s1:=(s0.stored (i*4+1) (.bool f.sl)).1;have s2:=(s1.stored (i*4+2) (.int .i64 (f.size:Nat))).1;have s3:=(s2.stored (i*4+3) a).1;rw[Vd vs l i hi f a e1] at s3;have t:ae (fun k=>k=g) w ((((w.setCell ⟨g,i*4,none⟩ (ah f.name)).setCell ⟨g,i*4+1,none⟩ (.bool f.sl)).setCell ⟨g,i*4+2,none⟩ (.int .i64 (f.size:Nat))).setCell ⟨g,i*4+3,none⟩ a) :=
  ae.setCell (a:=⟨g,i*4+3,none⟩) (ae.setCell (a:=⟨g,i*4+2,none⟩) (ae.setCell (a:=⟨g,i*4+1,none⟩) (ae.setCell (a:=⟨g,i*4,none⟩) (ae.refl (fun k=>k=g) w) (.inl rfl) _) (.inl rfl) _) (.inl rfl) _) (.inl rfl) _
 have hd:∀k,P k→¬(k=g):=fun k hk hc=>by have:=hP k hk;omega
 refine⟨ay.1,vs.set i a,by rw[Rx,Rx,e1],by rw[Rx];exact s3,fun j u f' hu hf=>?_⟩
 rw[abu] at hu hf;by_cases GQ:i=j
 ·rw[Φ GQ,Φ U] at hu hf
  cases hu;cases hf;exact ha.bh t hd
 ·rw[η GQ] at hu hf
  exact(e3 j u f' hu hf).bh t hd
end
section
open Go.RowKit
def FsL.apd(φ:FsL)(i:Nat)(f:ax)(d:Bytes)(g:StL×Int×List (Nat×Nat)):FsL :=
 if g.2.1≠0 then { φ with st:=g.1 } else FsL.wr { φ with st:=(g.1.writes (dU ((aT g.2.2).drop (f.size / 256)) (iY φ.st f++d))).1 } (φ.l.set i (dW f d g.2.2))
def FsL.ll(φ:FsL)(i:Nat)(f:ax)(d:Bytes)(g:StL×Int×List (Nat×Nat)):Int :=
 if g.2.1≠0 then g.2.1 else((g.1.writes (dU ((aT g.2.2).drop (f.size / 256)) (iY φ.st f++d))).1.dir φ.packed (φ.l.set i (dW f d g.2.2))).2
theorem Rh(w W:World)(F:Nat→Prop)(fb sb b:Nat)(φ:FsL)(K:Nat)(v:Value)(i:Nat)(hi:i<φ.l.length)(f:ax)(hf:f=φ.l[i])(d:Bytes){KI first:Nat}{fr:List (List WrL)}{C:Nat→Bytes}{g:StL×Int×List (Nat×Nat)}(h:FsK w W F fb sb b φ K v)(hl:φ.l.length≤1000)(hA:JP KI φ fr C first i f d g)(gM:KI<18446744073709551616)(hp:φ.packed=[]∨φ.packed.length=3072)(hK:K+80000≤1000000000000000000):
  Calls prog 32 #[.agg #[au fb,.int .i64 (i:Nat),ah d]] W fun e w'=>e=.returned (.int .i64 (φ.ll i f d g))∧FsR w w' F fb sb b (φ.apd i f d g) (K+40000):=by
 obtain⟨G,hG,h2,h3⟩:=h;obtain⟨wa,dO⟩:∃wa,wa=W.alloc (.cells #[au fb,.int .i64 (i:Nat),ah d] 78):=⟨_,rfl⟩;have qa:Q W wa:=by rw[dO];exact Q.alloc _ _
 have bZ:Blk wa W.heap.size 78 #[au fb,.int .i64 (i:Nat),ah d]:=by rw[dO];exact Blk.new W _ _
 have ay:=hG.fi;obtain⟨g0,off,cap,av,rfl,wR,FN,k0,k1,k2,k3⟩:=(hG.rows.q qa).file i hi;obtain⟨ap,am,ac,rfl⟩:=wR.value;obtain⟨_,_,c2,_⟩:=(hG.keep qa).box.c4;obtain⟨d0,d1,d2,_⟩:=bZ.c3;have CX:(i:Int)<(φ.l.length:Int):=U;have qL:(0:Int)≤(i:Int):=U;rw[←hf] at wR k0 k1 k2;have aC:∀wk,Q wa wk→Blk wk wa.heap.size 48 #[ah f.name,.bool f.sl,.int .i64 (f.size:Nat),.slice ap am ac]→ApS w W wk F G G fb sb b φ K (.slice (some ⟨g0,off,none⟩) φ.l.length cap) wa.heap.size (ah f.name) (.bool f.sl) (.int .i64 (f.size:Nat)) (.slice ap am ac) i d∧SlP (Pw G fb W) wk (.slice ap am ac) f.ext.length 2 (ext f.ext):=fun wk qk eu=>by
  have q:=qa.trans qk;have mV:=h3.size;refine⟨⟨hG.keep q,fun k hk=>.inl hk,fun k hk=>(h2 k hk).imp id fun hk=>⟨hk.1,Ψ hk.2 q.size⟩,h3.trans (ae.br q),eu,fun hc=>?_,bZ.stays qk,hG.rows.q q,bZ.lt,mV,ay⟩,wR.bh (ae.br (own:=fun _=>False) qk) (fun _ _ x=>x)⟩
  have:=ay _ hc;have:=qa.size;omega
 have aX:=Hd aC;have HA:=Hd hA;have QA:=Hd qa;have HF:=Hd hf;clear aC hA qa hG h2 h3 bZ ay wR FN hf;go_enter func32,ntmps32;go_wp2_with fail;rw[←dO];clear dO
 (go_region_held3 (fun w'=>w'.cell? ⟨W.heap.size,0,none⟩=some (au fb)∧w'.cell? ⟨W.heap.size,1,none⟩=some (.int .i64 (i:Nat))∧w'.cell? ⟨g0,off+i*4,none⟩=some (ah f.name)∧w'.cell? ⟨g0,off+i*4+1,none⟩=some (.bool f.sl)∧w'.cell? ⟨g0,off+i*4+2,none⟩=some (.int .i64 (f.size:Nat))∧w'.cell? ⟨g0,off+i*4+3,none⟩=some (.slice ap am ac)∧w'.cell? ⟨fb,2,none⟩=some (.slice (some ⟨g0,off,none⟩) φ.l.length cap))
  (first|exact⟨d0,d1,k0,k1,k2,k3,c2⟩|exact qf (by repeat (first|with_reducible exact Q.refl _|with_reducible apply Qs.dr|with_reducible apply Qs.al)) d0 d1 k0 k1 k2 k3 c2 )
  (first|fail))
 have eu:Blk (wa.alloc (.cells #[ah f.name,.bool f.sl,.int .i64 (f.size:Nat),.slice ap am ac] 48)).drew wa.heap.size 48 #[ah f.name,.bool f.sl,.int .i64 (f.size:Nat),.slice ap am ac]:=(Blk.new wa _ _).stays (Q.drew _);have qk:Q wa (wa.alloc (.cells #[ah f.name,.bool f.sl,.int .i64 (f.size:Nat),.slice ap am ac] 48)).drew:=(Q.alloc _ _).trans (Q.drew _);obtain⟨hs,bX⟩:=aX.out _ qk eu;clear k0 k1 k2 k3 d0 d1 d2 c2 eu qk aX;generalize (wa.alloc (.cells #[ah f.name,.bool f.sl,.int .i64 (f.size:Nat),.slice ap am ac] 48)).drew=wk at *;have hA:=HA.out;obtain⟨q,hq⟩:∃q,q=f.size / 256:=⟨_,rfl⟩;obtain⟨r,hr⟩:∃r,r=f.size%256:=⟨_,rfl⟩;have iH:=hA.num.max;have bP:=hA.size;have dz:Calls prog 36 #[au fb,oN f (.slice ap am ac),.int .i64 ((q:Int)*256),.int .i64 (r:Int)] wk fun e w'=>e=.returned (.tuple #[ah (iY φ.st f),.int .i64 0])∧FsK wk w' G fb sb b φ (K+256) (.slice (some ⟨g0,off,none⟩) φ.l.length cap):=by
  have hn:=hA.need;have:=Oa wk G fb sb b φ K _ f (.slice ap am ac) (q*256) r hs.g (bX.mono (fun k hk _=>hk.1) Z) hA.num hA.live (by have:=hA.few;omega) (fun e he=>by have:=hA.rng e he;omega) (LS (Bc f.ext (fun e he=>by have:=hA.rng e he;omega)) (by have:=hA.few;omega)) hA.blk (by show _≤256*f.bl.length;rw[hn];unfold cB;omega) U
  rw[hq,hr,rI φ.st f (fun k hk=>(hA.blk k hk).2) hn] at this
  rw[hq,hr,show((f.size / 256:Nat):Int)*256=((f.size / 256*256:Nat):Int) by omega]
  exact this.mono fun e w' hx=>⟨hx.1,hx.2.mono U⟩
 have f1:((f.size:Nat):Int).tdiv 256=(q:Int):=by rw[hq];rfl
 have f2:((f.size:Nat):Int).tmod 256=(r:Int):=by rw[hr];rfl
 have f3:IntKind.i64.wrap (q:Int)=(q:Int):=IntWalk.i64_in _ U;have f4:IntKind.i64.wrap (r:Int)=(r:Int):=IntWalk.i64_in _ U;have f5:IntKind.i64.wrap ((q:Int)*256)=(q:Int)*256:=IntWalk.i64_in _ U;have HS:=Hd hs;have xG:=Hd bX;have iO:=Hd dz;have HQ:=Hd hq;have HR:=Hd hr;obtain⟨b0,b1,b2,b3,_⟩:=hs.box.c4;obtain⟨d0,d1,d2,_⟩:=hs.arg.c3;clear hs bX dz hA hq hr;unfold oN at iO;go_wp2_with fail;refine iO.out.mono ?_;rintro e w1 ⟨rfl,h1⟩;obtain⟨G1,oV,_,t1⟩:=HS.out.k h1 rfl;have Dz:=xG.out.bh t1 (fun k hk=>hk.1)
 clear b0 b1 b2 b3 d0 d1 d2 h1 HS xG iO f1 f2 f3 f4 f5 t1;obtain⟨s2,jm⟩:∃s2,s2=f.size+d.length:=⟨_,rfl⟩;have e6:IntKind.i64.wrap ((f.size:Int)+(d.length:Int))=((s2:Nat):Int):=by rw[IntWalk.i64_in _ U,jm];omega
 obtain⟨b0,b1,b2,b3,_,_,g2,_⟩:=oV.box.c4;obtain⟨d0,d1,d2,_⟩:=oV.arg.c3;have Ab:=Hd oV;have aeF:=Hd Dz;have qD:=Hd jm;have HMX:=Hd iH;have mD:=Hd bP;clear oV Dz jm iH bP;go_upto_region 7 with fail;have TQ:=Ab.out.put2 (.int .i64 (s2:Nat));have Dx:=aeF.out.bh (ae.setCell (a:=⟨wa.heap.size,2,none⟩) (ae.refl (fun k=>k=wa.heap.size) w1) (.inl rfl) (.int .i64 (s2:Nat))) (fun k hk hc=>by have:=hk.2;have:=Ab.out.xlo;have h9:k=wa.heap.size:=hc;omega)
 clear b0 b1 b2 b3 g2 d0 d1 d2 Ab aeF;generalize w1.setCell ⟨wa.heap.size,2,none⟩ (.int .i64 (s2:Nat))=w2 at *;have hA:=HA.out;have iH:=HMX.out;have bP:=mD.out;have jm:=qD.out;obtain⟨m,hm⟩:∃m,m=cB s2:=⟨_,rfl⟩;obtain⟨bn,uf⟩:∃bn,bn=(aT f.ext).length:=⟨_,rfl⟩;have Cc:bn=(f.size+255) / 256:=by rw[uf];exact hA.need
 have lD:m=(s2+255) / 256:=hm;have gV:=hA.len;have hbc:(aT f.ext).length≤100000:=LS (Bc f.ext (fun e he=>by have:=hA.rng e he;omega)) (by have:=hA.few;omega)
 have dZ:∀W',Q w2 W'→Calls prog 74 #[.agg #[ah f.name,.bool f.sl,.int .i64 (s2:Nat),.slice ap am ac]] W' fun e w3=>∃p c,e=.returned (.slice p bn c)∧Q w2 w3:=fun W' q=>by
  refine(Dp W' { f with size:=s2 } (.slice ap am ac) (Dx.1.stays q) (by have:=hA.few;show f.ext.length≤_;omega) (fun e he=>by have:=hA.rng e he;omega) hbc).mono fun e w3 hx=>?_
  obtain⟨v,r1,r2,r3⟩:=hx;obtain⟨p,c,rfl,_⟩:=aY r2;exact⟨p,c,by rw[uf];exact r1,q.trans r3⟩
 have oW:∀w3,Q w2 w3→Calls prog 73 #[au fb,au wa.heap.size,.int .i64 ((m-bn:Nat):Int)] w3 fun e w4=>e=.returned (.int .i64 g.2.1)∧∃ev,Hid (GrS w3 w4 (fun k=>G1 k∨k=wa.heap.size) fb sb b { φ with st:=g.1 } (K+30256) (.slice (some ⟨g0,off,none⟩) φ.l.length cap) wa.heap.size (ah f.name) (.bool f.sl) (.int .i64 (s2:Nat)) ev g.2.2):=fun w3 q=>by
  have mV:=TQ.q q;have:=sR w3 G1 fb sb b φ (K+256) _ wa.heap.size _ _ _ _ f.ext (m-bn) mV.g mV.box mV.nx (Dx.1.stays q) mV.clear hA.gr gM U hA.few (fun e he=>hA.rng e he) U
  have eg:φ.st.grow f.ext (m-bn)=g:=by rw[hm,jm,uf];exact hA.grown
  rw[eg] at this;exact this.mono fun e w4 hx=>⟨hx.1,by obtain⟨ev,h⟩:=hx.2;exact⟨ev,Hd h⟩⟩
 have e1:IntKind.i64.wrap ((s2:Int)+256)=(s2:Int)+256:=IntWalk.i64_in _ U;have e2:IntKind.i64.wrap ((s2:Int)+256-1)=(s2:Int)+256-1:=IntWalk.i64_in _ U;have e3:((s2:Int)+256-1).tdiv 256=(m:Int):=by
  rw[show((s2:Int)+256-1)=((s2+255:Nat):Int) by omega,lD];rfl
 have e4:IntKind.i64.wrap (m:Int)=(m:Int):=IntWalk.i64_in _ U;have e5:IntKind.i64.wrap ((m:Int)-(bn:Int))=((m-bn:Nat):Int):=by rw[IntWalk.i64_in _ U];omega
 obtain⟨b0,b1,b2,b3,_⟩:=TQ.box.c4;obtain⟨d0,d1,d2,_⟩:=TQ.arg.c3;have b3d:=aj (Q.drew w2) b3;have aeG:=Hd TQ;have M5:=Hd Dx;have iV:=Hd dZ;have TP:=Hd oW;have HM:=Hd (And.intro lD jm);clear TQ Dx dZ oW hA iH bP jm hm uf Cc lD gV hbc qD e6;go_cut [7] from 48 to 59 (fun e7 wx=>e7=.int .i64 g.2.1∧∃(ev:Value) (w3:World),Hid (Q w2 w3)∧Hid (GrS w3 wx (fun k=>G1 k∨k=wa.heap.size) fb sb b { φ with st:=g.1 } (K+30256) (.slice (some ⟨g0,off,none⟩) φ.l.length cap) wa.heap.size (ah f.name) (.bool f.sl) (.int .i64 (s2:Nat)) ev g.2.2))
 case first =>
  go_wp2_with fail
  (go_region_law
   (first
    | (go_simp;go_at_call 74;refine(iV.out _ (by first|exact Q.refl _|exact Q.drew _)).mono ?_;rintro e w3 ⟨p3,c3,rfl,q3⟩;have g7:=Fs q3 d0 b0 b1 b2;have g70:=g7.1;have Q3:=Hd q3;clear q3)
    | (go_simp;go_at_call 73;refine(TP.out _ Q3.out).mono ?_;rintro e w4 ⟨rfl,ev,h4⟩)))
  all_goals
   go_wp2_with fail;go_meet;case rel=>first|exact⟨rfl,ev,w3,Q3,h4⟩|exact⟨rfl,ev,w3,Q3,Hd (h4.out.q (Q.drew _))⟩
 case rest =>
  obtain⟨rfl,ev,w3,Q3,H4⟩:=hcut;obtain⟨w4,rfl⟩:∃w4:World,w4=wc:=⟨_,rfl⟩;obtain⟨G4,kZ,TS⟩:=(aeG.out.q Q3.out).grown H4.out rfl;have hA:=HA.out;clear b0 b1 b2 b3 b3d d0 d1 d2 iV TP H4 e1 e2 e3 e4 e5;rcases hA.res with h9|⟨h0,r1,r2,r3,r4,r5,r6⟩
  ·have hE:φ.ll i f d g=9:=by unfold FsL.ll;rw[Φ (by rw[h9];decide),h9]
   have hP:φ.apd i f d g={ φ with st:=g.1 }:=by unfold FsL.apd;rw[Φ (by rw[h9];decide)]
   have H4:=Hd ((kZ.fsk.r).mono (show K+30256≤K+40000 by omega))
   have HE:=Hd hE;have HP:=Hd hP;rw[h9];clear kZ TS hA h9 hE hP;go_wp2_with fail;go_ret;rw[HE.out,HP.out];exact⟨rfl,H4.out⟩
  ·have hE:φ.ll i f d g=((g.1.writes (dU ((aT g.2.2).drop (f.size / 256)) (iY φ.st f++d))).1.dir φ.packed (φ.l.set i (dW f d g.2.2))).2:=by unfold FsL.ll;rw[η (by rw[h0];simp)]
   have hP:φ.apd i f d g=FsL.wr { φ with st:=(g.1.writes (dU ((aT g.2.2).drop (f.size / 256)) (iY φ.st f++d))).1 } (φ.l.set i (dW f d g.2.2)):=by unfold FsL.apd;rw[η (by rw[h0];simp)]
   have hq:=HQ.out;have nS:(iY φ.st f).length≤255:=by
    have:=Oc φ.st f (fun k hk=>(hA.blk k hk).2) hA.need;omega
   have gV:=hA.len;have rU:0<d.length:=UV.2 hA.some;have iH:=HMX.out;have bP:=mD.out;obtain⟨lD,jm⟩:=HM.out;have YR:=r4.bits;rw[←hq] at hE hP r4 r5 YR;have hn5:(aT g.2.2).length=m:=by rw[r3,lD,jm];rfl
   have hqm:q<m:=U;obtain⟨ep,en,ec,rfl⟩:=TS.value;have gY:∀W',Q w4 W'→Calls prog 74 #[.agg #[ah f.name,.bool f.sl,.int .i64 (s2:Nat),.slice ep en ec]] W' fun e w5=>∃gb c,e=.returned (.slice (some ⟨gb,0,none⟩) m c)∧m≤c∧Q w4 w5∧Hid (w4.heap.size≤gb∧gb<w5.heap.size∧∀k (hk:k<((aT g.2.2).drop q).length),w5.cell? ⟨gb,q+k,none⟩=some (.int .i64 (((aT g.2.2).drop q)[k]:Nat))):=fun W' qw=>by
    have sN:(aT g.2.2).length≤100000:=LS (Bc g.2.2 (fun e he=>by have:=r2 e he;omega)) U
    refine(Dp W' { f with size:=s2,ext:=g.2.2 } (.slice ep en ec) (TS.1.stays qw) (by show g.2.2.length≤_;omega) (fun e he=>by have:=r2 e he;omega) sN).mono fun e w5 hx=>?_
    obtain⟨v,x1,x2,x3⟩:=hx;have x2':w5.ownsRow W'.heap.size 3 1 v (aT g.2.2).length ((aT g.2.2).map dX):=x2;rw[hn5] at x2';obtain⟨_,c,rfl,hgv⟩:=aY x2';obtain⟨gb,rfl⟩:=hgv U;have ay:=x2'.lt gb rfl;have hqs:=qw.size;refine⟨gb,c,by rw[x1],?_,qw.trans x3,Hd ⟨U,ay.2,fun k hk=>?_⟩⟩
    ·rcases x2'.2 with ⟨e,_⟩|⟨_,_,_,e,_,_,y,_⟩
     ·cases e
     ·cases e;exact y
    ·rw[L5,hn5] at hk
     rw[x2'.cellAt (q+k) U,SR,Wc,LN U];rfl
   obtain⟨D,hD⟩:∃D,D=iY φ.st f++d:=⟨_,rfl⟩;have hDl:D.length≤6255:=by rw[hD,Δ];omega
   have hsum:(({ data:=(iY φ.st f).toArray }:ByteArray)++{ data:=d.toArray })=⟨D.toArray⟩:=by rw[hD];exact bytes_append _ _
   have aeH:((aT g.2.2).drop q).length=m-q:=by rw[L5,hn5]
   rw[←hD] at hE hP r4 r5 YR;have O3:¬9223372036854775807<(iY φ.st f).length+d.length:=U;obtain⟨b0,b1,b2,b3,_⟩:=kZ.box.c4;obtain⟨d0,d1,d2,_⟩:=kZ.arg.c3;have wM:=Hd gY;have Z4:=Hd kZ;have aiR:=Hd TS;have HE:=Hd hE;have HP:=Hd hP;have R4:=Hd r4;have R5:=Hd r5;have R6:=Hd r6;have CQ:=Hd hsum;have amP:=Hd YR;have aiS:=Hd aeH;rw[h0];clear gY kZ TS hE hP r1 r2 r3 r4 r5 r6 hsum hD hA h0 hn5 hq nS YR aeH lD jm gV rU aeG;generalize VR:(aT g.2.2).drop q=bs at *;clear VR;generalize iY φ.st f=tl at *;have ji:(0:Int)≤(q:Int):=U;have amQ:(q:Int)≤(m:Int):=U;go_upto_region 11 with fail;rw[CQ.out];go_wp2_with fail;refine(wM.out _ (Q.refl _)).mono ?_;rintro e w5 ⟨gb,c,rfl,hmc,q5,H5c⟩;have amR:(m:Int)≤(c:Int):=U;obtain⟨eT,jM,Z5⟩:=H5c.out;have zZ:=Z4.out.q q5;have aP:∀wr,ae (own G4 fb) w5 wr→∀k (hk:k<bs.length),wr.cell? ⟨gb,q+k,none⟩=some (.int .i64 (bs[k]:Nat)):=fun wr t k hk=>t.cell (Z5 k hk) (fun hc=>by have h9:own G4 fb gb:=hc;have:=Z4.out.g.fi _ h9;omega)
   have Cx:∀wr,ae (own G4 fb) w5 wr→wr.cell? ⟨W.heap.size,0,none⟩=some (au fb):=fun wr t=>t.cell zZ.arg.c3.1 (fun hc=>(zZ.sub _ hc).elim (fun h=>by have:=zZ.low _ h;simp only[] at this;omega) (fun h=>by simp only[] at h;omega))
   have aiT:Hid (FsK w5 w5 G4 fb sb b { φ with st:=(g.1.writes ((dU bs D).take 0)).1 } (K+30256+0) (.slice (some ⟨g0,off,none⟩) φ.l.length cap)):=Hd (FsK.of zZ.g);have RO:=Hd zZ;have xW:=Hd aP;have Hg:=Hd Cx;have Q5:=Hd q5;have dZ:=aiS.out;have iP:=fun (W:World) (c:Nat) (hc:c≤256)=>Tryz.strings_Repeat ⟨#[0]⟩ c W U (by show 1*c≤_;omega)
   simp only[od] at iP;have Hw:=Hd iP;clear zZ aP Cx q5 H5c Z5 b0 b1 b2 b3 d0 d1 d2 iP;go_wp2_with fail;go_loopw [8,72] (fun dv iv wr=>∃k:Nat,iv=.int .i64 (k:Nat)∧k≤bs.length∧dv=ah (D.drop (256*k))∧Hid (FsK w5 wr G4 fb sb b { φ with st:=(g.1.writes ((dU bs D).take k)).1 } (K+30256+k) (.slice (some ⟨g0,off,none⟩) φ.l.length cap))) (fun _ iv _=>bs.length-(intOf iv).toNat)
   case atStart=>exact⟨0,rfl,L0 _,rfl,aiT⟩
   case round =>
    obtain⟨k,rfl,hk,rfl,HK⟩:=hrel;by_cases ay:k<bs.length
    ·have bq:(k:Int)<((m-q:Nat):Int):=U
     have Dw:(k:Int)<(m:Int)-(q:Int):=U;have lT:(0:Int)≤(k:Int):=U;have x0:=xW.out wr HK.out.t k ay;have y0:=Hg.out wr HK.out.t;obtain⟨z0,_⟩:=HK.out.cells;obtain⟨n1,n2,n3,n4⟩:=R4.out.step gM k ay;have h26:=R4.out.len;obtain⟨dk,zC⟩:∃dk,dk=D.drop (256*k):=⟨_,rfl⟩;obtain⟨t1,xY⟩:∃t1,t1=min dk.length 256:=⟨_,rfl⟩;obtain⟨tk,kH⟩:∃tk,tk=dk.take 256:=⟨_,rfl⟩;obtain⟨dr,nQ⟩:∃dr,dr=D.drop (256*(k+1)):=⟨_,rfl⟩;have aiU:tk.length=t1:=by rw[kH,L4,xY,Nat.min_comm]
     have m1:min ((dk.length:Nat):Int) 256=(t1:Int):=by rw[xY];omega
     have m2:(0:Int)≤(t1:Int):=U;have m3:(t1:Int)≤(dk.length:Int):=U;have m4:(t1:Int).toNat=t1:=U;have x1:({ data:=dk.toArray }:ByteArray).extract 0 t1=⟨tk.toArray⟩:=by
      rw[eY,kH,xY,QQ,adx];rcases Nat.le_total dk.length 256 with h|h
      ·rw[RE h,Mp (Ω _),Mp h]
      ·rw[Nat.min_eq_right h]
     have x2:({ data:=dk.toArray }:ByteArray).extract t1 dk.length=⟨dr.toArray⟩:=by
      rw[eY,Mp (by rw[L5];exact Ω _),nQ,show 256*(k+1)=256*k+256 by omega,←N6,←zC,xY]
      rcases Nat.le_total dk.length 256 with h|h
      ·rw[RE h,Pr (Ω _),Pr h]
      ·rw[Nat.min_eq_right h]
     have e1:IntKind.i64.wrap (256-(t1:Int))=((256-t1:Nat):Int):=by rw[IntWalk.i64_in _ U];omega
     have iP:=fun (W:World)=>Hw.out W (256-t1) U
     have amS:=hsum tk (bg (256-t1)) (by rw[fC];omega)
     have hpd:xq tk=tk++bg (256-t1):=by unfold xq;rw[aiU]
     have jB:∀X,FsK w5 X G4 fb sb b { φ with st:=(g.1.writes ((dU bs D).take k)).1 } (K+30256+k) (.slice (some ⟨g0,off,none⟩) φ.l.length cap)→Calls prog 75 #[au sb,.int .i64 (bs[k]:Nat),ah (tk++bg (256-t1))] X fun e w'=>e=.returned (.int .i64 0)∧FsK w5 w' G4 fb sb b { φ with st:=(g.1.writes ((dU bs D).take (k+1))).1 } (K+30256+(k+1)) (.slice (some ⟨g0,off,none⟩) φ.l.length cap):=fun X qx=>by
      rw[←hpd,n3,kH,zC];exact qx.call (fun Gx hgx=>(KZ X Gx sb b _ (K+30256+k) _ (xq ((D.drop (256*k)).take 256)) hgx n1 U (by rw[ED _ (by rw[L4];omega)];omega)).mono fun e w' hx=>⟨by rw[hx.1,n2],hx.2⟩)
     have Hz:=Hd iP;have vC:=Hd jB;have iI:=Hd ay;rw[←zC];have HDR:=Hd nQ;generalize bs[k]=bk at *;clear iP jB n1 n2 n3 n4 zC xY kH nQ hpd ay;generalize bg (256-t1)=zz at *;obtain⟨rp,aeI⟩:∃rp,rp=256-t1:=⟨_,rfl⟩;rw[←aeI] at e1 Hz;clear aeI;have y0d:=aj (Q.drew wr) y0;have z0d:=aj (Q.drew wr) z0;have KK:=Hd (Q.refl wr);go_wp2_with fail
     (go_region_held3 (fun w'=>w'.cell? ⟨W.heap.size,0,none⟩=some (au fb)∧w'.cell? ⟨fb,0,none⟩=some (au sb))
      (first|exact g9|exact⟨y0,z0⟩|exact⟨y0d,z0d⟩|exact two δ y0 z0)
      (first
       | (go_at_call 76;refine(Hz.out _).mono ?_;rintro e w6 ⟨rfl,q6⟩;have s':Q wr w6:=Q.trans ω q6;clear KK;have KK:=Hd s';clear s' q6)
       | (go_at_call 75;refine(vC.out _ (HK.out.q ω)).mono ?_;rintro e w7 ⟨rfl,h7⟩;have g9:=And.intro (Hg.out _ h7.t) h7.cells.1;have H7:=Hd h7;clear h7)))
     all_goals
      go_wp2_with fail;go_roundw;case rel=>exact⟨k+1,by go_num,iI.out,by rw[←HDR.out],H7⟩
      case measure=>have:=iI.out;simp[intOf];omega
    ·have hk9:k=bs.length:=U
     have bq:¬(k:Int)<((m-q:Nat):Int):=U;have h26:=R4.out.len;have Tp:(dU bs D).take k=dU bs D:=Mp (by rw[Cb];omega)
     have hK7:=HK.out;rw[Tp] at hK7;obtain⟨G6,JK,hG6,t6⟩:=RO.out.k hK7 rfl;have h45:=Q5.out.size;have h56:=t6.size;have V9:∀k,(¬own G4 fb k∧k<w4.heap.size)→Pw G6 fb wr k:=fun k hk=>⟨fun hc=>by
      rcases hc with hc|hc
      ·rcases hG6 k hc with hc|hc
       ·exact hk.1 (.inl hc)
       ·have:=hk.2;omega
      ·exact hk.1 (.inr hc),by have:=hk.2;omega⟩
     have HPG:=Hd V9;have aeK:=(aiR.out.bh (ae.br (own:=fun _=>False) Q5.out) (fun _ _ x=>x)).bh t6 (fun k hk=>hk.1)
     obtain⟨b0,b1,b2,b3,_⟩:=JK.box.c4;obtain⟨d0,d1,d2,_⟩:=JK.arg.c3;obtain⟨_,_,c2,_⟩:=JK.g.box.c4;have bL:Calls prog 37 #[.slice (some ⟨g0,off,none⟩) φ.l.length cap] wr fun e w7=>∃v',e=.returned v'∧Q wr w7∧Hid (cE (Pw G6 fb wr) w7 wr.heap.size v' φ.l):=(JK.g.jp hl (Q.refl wr)).mono fun e w7 hx=>by
      obtain⟨v',x1,x2,x3⟩:=hx;exact⟨v',x1,x3,Hd x2⟩
     have p8:=Hd bL;have Z6:=Hd JK;have aau:=Hd aeK;clear bL JK aeK hK7 HK t6 Tp V9 hG6 h45 h56;go_wp2_with fail;refine p8.out.mono ?_;rintro e w7 ⟨v7,rfl,q7,H7⟩;obtain⟨g9,cap9,av9,rfl,_,l0,l1,l2,l3⟩:=H7.out.file i hi;obtain⟨b0',b1',b2',b3'⟩:=Fs q7 b0 b1 b2 b3;obtain⟨d0',d1',_⟩:=three q7 d0 d1 d2;have Ef:∀j,w7.frozen? ⟨g9,j,none⟩=false:=fun j=>by obtain⟨vs,_,e2,_⟩:=H7.out;exact e2.frozenAt j
     have f0:=Ef (i*4);have f1:=Ef (i*4+1);have f2:=Ef (i*4+2);have f3:=Ef (i*4+3);clear b0 b1 b2 b3 d0 d1 d2 Ef;go_upto_region 22 with fail;have hPw:∀k,Pw G6 fb wr k→k<wr.heap.size:=fun k hk=>hk.2
     have Wi:SlP (Pw G6 fb wr) w7 (.slice ep en ec) (dW f d g.2.2).ext.length 2 (ext (dW f d g.2.2).ext):=(aau.out.bh (ae.br (own:=fun _=>False) q7) (fun _ _ x=>x)).mono (fun k hk _=>HPG.out k hk) Z
     obtain⟨lF,hF8⟩:=H7.out.setF hPw i hi (dW f d g.2.2) Wi;rw[show(dW f d g.2.2).size=s2 from HM.out.2.symm] at hF8
     rw[show Value.string { data:=List.toArray f.name }=ah (dW f d g.2.2).name from rfl]
     have Mf:=Q.setCell (Q.setCell (Q.setCell (Q.setCell q7 (a:=⟨g9,i*4,none⟩) lF (ah (dW f d g.2.2).name)) (a:=⟨g9,i*4+1,none⟩) lF (.bool f.sl)) (a:=⟨g9,i*4+2,none⟩) lF (.int .i64 (s2:Nat))) (a:=⟨g9,i*4+3,none⟩) lF (.slice ep en ec);have aeM:cE (Pw G6 fb wr) ((((w7.setCell ⟨g9,i*4,none⟩ (ah (dW f d g.2.2).name)).setCell ⟨g9,i*4+1,none⟩ (.bool f.sl)).setCell ⟨g9,i*4+2,none⟩ (.int .i64 (s2:Nat))).setCell ⟨g9,i*4+3,none⟩ (.slice ep en ec)) wr.heap.size (.slice (some ⟨g9,0,none⟩) φ.l.length cap9) (φ.l.set i (dW f d g.2.2)):=hF8;clear hF8 l0 l1 l2 l3 f0 f1 f2 f3 b0' b1' b2' b3' d1' d0';generalize (((w7.setCell ⟨g9,i*4,none⟩ (ah (dW f d g.2.2).name)).setCell ⟨g9,i*4+1,none⟩ (.bool f.sl)).setCell ⟨g9,i*4+2,none⟩ (.int .i64 (s2:Nat))).setCell ⟨g9,i*4+3,none⟩ (.slice ep en ec)=w8 at *;have kT:=(R4.out.run (dU bs D).length).2.2.2.2.1;rw[M1] at kT;have hw8:=Z6.out.g.mS Z6.out.gr Z6.out.t Mf (aeM.own Z6.out.g (Ω _)) (first:=first) (by show cN _ (g.1.writes (dU bs D)).1.n _;rw[kT];exact R6.out) R5.out gM hp U
     have z0:=(Z6.out.q Mf).arg.c3.1;have HW8:=Hd hw8;clear hw8 aeM Mf q7;go_wp2_with fail;refine HW8.out.mono ?_;rintro e w9 ⟨rfl,h9,_⟩;have H9:=Hd (h9.mono (show K+30256+k+12≤K+40000 by omega))
     clear h9;go_wp2_with fail;go_ret;rw[HE.out,HP.out];exact⟨rfl,H9.out⟩
end
section
open Go.RowKit
section
variable {KI:Nat} {φ:FsL} {fr:List (List WrL)} {C:Nat→Bytes}
theorem bz.appH(h:bz KI φ fr C)(gM:KI<18446744073709551616)(i:Nat)(hi:i<φ.l.length)(d:Bytes)(hd:d.length≤6000)(rU:d≠[])(hs:φ.l[i].size+d.length≤2147483647){g:StL×Int×List (Nat×Nat)}(hg:φ.st.begin.1.grow φ.l[i].ext (cB (φ.l[i].size+d.length)-φ.l[i].bl.length)=g):
  JP KI { φ with st:=φ.st.begin.1 } fr C (ak φ.st.n+12) i φ.l[i] d g∧TxI KI fr C φ.st g.1:=by
 obtain⟨ht,h0,h1⟩:=h.start;have hf:=LO hi;have ho:=h.good.ok.ok _ hf;have hn:=fq ht.j;have iH:=h.st.max;have hblk:∀k∈aT φ.l[i].ext,φ.st.begin.1.cQ (k:Nat)=true∧(φ.st.begin.1.get k).length=256:=fun k hk=>by
  have hr:=h.good.ok.mem (Pi.2 ⟨_,hf,hk⟩);have DY:63≤ak φ.st.n:=SP _ _;refine⟨by unfold StL.cQ;rw[hn];simp;omega,?_⟩
  rw[ht.st.get _ U (by rw[hn];exact hr.2),h0]
  exact h.B5 (Pi.2 ⟨_,hf,hk⟩)
 obtain⟨g1,g3,_⟩:=Ja h _ hf d hg;refine⟨⟨ht.st.num gM,ht.st.inv.live,ho.few,fun e he=>by have:=ho.ext e he;show _∧_∧_≤φ.st.begin.1.n;rw[hn];omega,hblk,ho.need,hs,hd,rU,h.grI,hg,?_⟩,g1⟩
 rcases g3 with ⟨g3,_⟩|⟨g3,new,hG⟩
 ·exact .inl g3
 ·obtain⟨a1,a2⟩:=h.appS φ.l[i] hf d (iY φ.st.begin.1 φ.l[i]) hd (Oc _ _ (fun k hk=>(hblk k hk).2) ho.need) hG
  refine .inr ⟨g3,hG.few,fun e he=>by have:=hG.ext e he;omega,by rw[hG.run,hG.len];rfl,by show kq KI φ.st.begin.1.n _ _ _ _ _;rw[hn];exact a1,a2,by show cN _ φ.st.begin.1.n _;rw[hn];exact Ld h i hi d hs hG⟩
end
theorem Jj(w:World)(F:Nat→Prop)(fb sb b:Nat)(φ:FsL)(K:Nat)(v:Value)(s d:Bytes)(h:FsG w F fb sb b φ K v)(hI:FOk φ)(hK:K+100000≤1000000000000000000)(hd:d.length≤1000000):
  Calls prog 11 #[au fb,ah s,ah d] w fun e w'=>e=.returned (.int .i64 (φ.append s d).2)∧FsR w w' F fb sb b (φ.append s d).1 (K+40000):=by
 have eP:=wB s h hI.find;have hk:∀W,Q w W→FsR w W F fb sb b φ (K+40000):=fun W q=>(((FsK.of h).q q).mono U).r
 have hc:φ.append s d=if φ.dj s≠0 then(φ,φ.dj s) else if (φ.at9 s).sl then(φ,13) else if 6000<d.length∨2147483647<(φ.at9 s).size+d.length then(φ,5) else if d=[] then(φ,0) else φ.cq (oF φ (aA φ.l s) (φ.at9 s) d):=rfl
 have pF:φ.dj s=if φ.st.dead then 4 else if isF φ.l s then 0 else 10:=rfl
 have bL:φ.st.dead=false→isF φ.l s=true→∀W,Q w W→∃g off cap av,v=.slice (some ⟨g,off,none⟩) φ.l.length cap∧(aA φ.l s:Int)<(φ.l.length:Int)∧(φ.at9 s).size≤2147483647∧W.cell? ⟨fb,2,none⟩=some v∧W.cell? ⟨g,off+aA φ.l s*4+1,none⟩=some (.bool (φ.at9 s).sl)∧W.cell? ⟨g,off+aA φ.l s*4+2,none⟩=some (.int .i64 ((φ.at9 s).size:Nat))∧W.cell? ⟨g,off+aA φ.l s*4+3,none⟩=some av:=fun h1 h2 W q=>by
  rcases hI with hd|⟨_,KI,fr,C,hI,gM⟩
  ·rw[h1] at hd;cases hd
  ·obtain⟨hp,_⟩:=zo h2
   obtain⟨g,off,cap,av,e,_,_,k0,k1,k2,k3⟩:=(h.keep q).file (aA φ.l s) hp;rw[DV φ s hp];exact⟨g,off,cap,av,e,U,(hI.good.ok.ok _ (LO hp)).size,(h.keep q).box.c4.2.2.1,k1,k2,k3⟩
 have jV:φ.st.dead=false→isF φ.l s=true→¬(6000<d.length∨2147483647<(φ.at9 s).size+d.length)→d≠[]→∀W,Q w W→Calls prog 30 #[au fb,.func (.func 32) #[.agg #[au fb,.int .i64 (aA φ.l s:Nat),ah d]] #[]] W fun e w'=>e=.returned (.int .i64 (φ.cq (oF φ (aA φ.l s) (φ.at9 s) d)).2)∧FsR w w' F fb sb b (φ.cq (oF φ (aA φ.l s) (φ.at9 s) d)).1 (K+40000):=fun h1 h2 h3 h4 W q=>by
  rcases hI with hd|⟨_,KI,fr,C,hI,gM⟩
  ·rw[h1] at hd;cases hd
  ·have hlen:=hI.len
   obtain⟨hp,_⟩:=zo h2;rw[DV φ s hp] at h3 ⊢;rw[not_or] at h3;obtain⟨g,hg⟩:∃g,φ.st.begin.1.grow φ.l[aA φ.l s].ext (cB (φ.l[aA φ.l s].size+d.length)-φ.l[aA φ.l s].bl.length)=g:=⟨_,rfl⟩;obtain⟨hA,hT⟩:=hI.appH U _ hp d U h4 U hg;obtain⟨i,hi⟩:∃i,i=aA φ.l s:=⟨_,rfl⟩;generalize hf:φ.l[aA φ.l s]=f at *;rw[←hi] at hA ⊢;have hr:oF φ i f d φ.st.begin.1=if g.2.1≠0 then(g.1,g.2.1,φ.l) else qm φ (g.1.writes (dU ((aT g.2.2).drop (f.size / 256)) (iY φ.st.begin.1 f++d))).1 (φ.l.set i (dW f d g.2.2)):=by
    unfold oF;rw[hg];rcases hA.res with h9|⟨h0,_,_,_,ha,_,_⟩
    ·rw[Φ (by rw[h9];decide),Φ (by rw[h9];decide)]
    ·have hw:=(ha.run (dU ((aT g.2.2).drop (f.size / 256)) (iY φ.st.begin.1 f++d)).length).1
     rw[M1] at hw;have sK:¬g.2.1≠0:=by rw[h0];simp
     have ZN:¬(g.1.writes (dU ((aT g.2.2).drop (f.size / 256)) (iY φ.st.begin.1 f++d))).2≠0:=by rw[hw];simp
     simp only[η sK,η ZN]
   have hψ:FsL.apd { φ with st:=φ.st.begin.1 } i f d g=if g.2.1≠0 then { φ with st:=g.1 } else FsL.wr { φ with st:=(g.1.writes (dU ((aT g.2.2).drop (f.size / 256)) (iY φ.st.begin.1 f++d))).1 } (φ.l.set i (dW f d g.2.2)):=rfl
   have hE:FsL.ll { φ with st:=φ.st.begin.1 } i f d g=(oF φ i f d φ.st.begin.1).2.1:=by
    rw[hr];unfold FsL.ll qm;split<;>rfl
   refine(Gt W F fb sb b φ (FsL.apd { φ with st:=φ.st.begin.1 } i f d g) K (K+40000) v (oF φ i f d) _ _ (h.keep q) U (enters_of func32 (by kernel_rfl) rfl) ?_ (fun _=>?_) (fun _ X hX=>?_)).mono fun e w' hx=>⟨hx.1,FsR.seq (fun k hk=>.inl hk) (ae.br q) hx.2⟩
   ·rw[hr,hψ]
    rcases hA.res with h9|⟨h0,_,_,_,_,hs,_⟩
    ·rw[Φ (by rw[h9];decide),Φ (by rw[h9];decide)]
     exact⟨rfl,fun he=>by rw[show g.2.1=0 from he] at h9;exact absurd h9 Z⟩
    ·rw[η (by rw[h0];simp),η (by rw[h0];simp)]
     refine⟨rfl,fun he=>?_⟩
     have JA:=hs.code φ.packed (φ.l.set i (dW f d g.2.2));rw[show((g.1.writes _).1.dir φ.packed _).2=0 from he] at JA
     cases G9:iA (φ.l.set i (dW f d g.2.2)) with
     | false=>rw[G9] at JA;exact absurd JA Z
     | true=>unfold FsL.wr;rw[G9];exact⟨rfl,rfl⟩
   ·rw[hψ]
    rcases hA.res with h9|⟨h0,_,_,_,_,hs,_⟩
    ·rw[Φ (by rw[h9];decide)]
     exact⟨cg.num (K:=KI) hT.st U,Ap (K:=KI) hT.st gM⟩
    ·rw[η (by rw[h0];simp)]
     have ha:=hs.after φ.packed (φ.l.set i (dW f d g.2.2));exact⟨cg.num (K:=KI) ha U,Ap (K:=KI) ha gM⟩
   ·rw[←hE]
    have Cm:i<φ.l.length:=by rw[hi];exact hp
    have eP:φ.l[i]=f:=by rw[←hf];simp only[hi]
    exact Rh W X F fb sb b { φ with st:=φ.st.begin.1 } K v i Cm f eP.symm d hX (LS hlen Z) hA U (.inr hI.eJ) U
 rw[hc,pF];have iW:=Hd eP;have HK:=Hd hk;have xP:=Hd jV;have p8:=Hd bL;clear eP hk hc jV h hI pF bL;generalize hD:φ.cq (oF φ (aA φ.l s) (φ.at9 s) d)=D at *;clear hD;generalize φ.st.dead=dd at *;generalize isF φ.l s=isf at *;generalize aA φ.l s=pl at *;generalize φ.at9 s=f9 at *;generalize φ.l=fl at *;obtain⟨R,hR⟩:∃R:FsL×Int,R=if (if dd=true then(4:Int) else if isf=true then 0 else 10)≠0 then(φ,if dd=true then(4:Int) else if isf=true then 0 else 10) else if f9.sl=true then(φ,13) else if 6000<d.length∨2147483647<f9.size+d.length then(φ,5) else if d=[] then(φ,0) else D:=⟨_,rfl⟩
 rw[←hR];have HR:=Hd hR;clear hR;go_enter func11,ntmps11;go_wp2_with fail;refine iW.out.mono ?_;rintro e w1 ⟨rfl,q1⟩;have Q1:=Hd q1;clear q1;have fin:∀(W':World) (X:FsL×Int) (e:Int),R=X→X.2=e→FsR w W' F fb sb b X.1 (K+40000)→Ending.returned (Value.int .i64 e)=.returned (.int .i64 R.2)∧FsR w W' F fb sb b R.1 (K+40000):=fun W' X e h1 h2 h3=>by rw[h1,h2];exact⟨rfl,h3⟩
 have TT:=Hd fin;clear fin;cases dd
 ·cases isf
  ·simp only[M2,ON,PM]
   have hr:R=(φ,10):=by rw[HR.out];simp
   have ow:=Hd hr;clear hr HR;go_wp2_with fail;go_ret;exact TT.out _ _ _ ow.out rfl (HK.out _ Q1.out)
  ·simp only[M2,ON,PM]
   obtain⟨g,off,cap,av,rfl,hp,bP,k0,k1,k2,k3⟩:=p8.out (by first|trivial|rfl) (by first|trivial|rfl) _ Q1.out
   have Fz:(0:Int)≤(pl:Int):=U;have jV:=xP.out (by first|trivial|rfl) (by first|trivial|rfl)
   have HD:=Hd jV;clear jV xP p8;obtain⟨fn,fsl,fz,fx⟩:=f9;simp only[] at bP k0 k1 k2 k3 HD HR;have e1:IntKind.i64.wrap (2147483647-(d.length:Int))=2147483647-(d.length:Int):=IntWalk.i64_in _ U;cases fsl
   ·by_cases CY:6000<d.length∨2147483647<fz+d.length
    ·have hr:R=(φ,5):=by rw[HR.out];simp[CY]
     have ow:=Hd hr;by_cases h6:6000<d.length
     ·have h6i:(6000:Int)<(d.length:Int):=U
      clear HD CY hr HR;go_wp2_with fail;go_ret;exact TT.out _ _ _ ow.out rfl (HK.out _ Q1.out)
     ·have h6i:¬(6000:Int)<(d.length:Int):=U
      have h7i:2147483647-(d.length:Int)<(fz:Int):=U;clear HD CY hr HR;go_wp2_with fail;go_ret;exact TT.out _ _ _ ow.out rfl (HK.out _ Q1.out)
    ·have h6i:¬(6000:Int)<(d.length:Int):=U
     have h7i:¬2147483647-(d.length:Int)<(fz:Int):=U;by_cases rU:d=[]
     ·have hr:R=(φ,0):=by rw[HR.out,η κ,η κ,η CY,Φ rU]
      have ow:=Hd hr;clear HD CY hr HR h6i h7i e1;subst rU;go_wp2_with fail;go_ret;exact TT.out _ _ _ ow.out rfl (HK.out _ Q1.out)
     ·have hr:R=D:=by rw[HR.out,η κ,η κ,η CY,η rU]
      have ow:=Hd hr;have jV:=HD.out CY rU _ Q1.out;have tY:=Hd jV;have Cu:d.isEmpty=false:=by simpa using rU
      clear jV HD CY rU hr HR;go_wp2_with fail;refine tY.out.mono ?_;rintro e w3 ⟨rfl,h3⟩;have H3:=Hd h3;clear h3;go_wp2_with fail;go_ret;exact TT.out _ _ _ ow.out rfl H3.out
   ·have hr:R=(φ,13):=by rw[HR.out];simp
    have ow:=Hd hr;clear HD hr HR;go_wp2_with fail;go_ret;exact TT.out _ _ _ ow.out rfl (HK.out _ Q1.out)
 ·simp only[PM]
  have hr:R=(φ,4):=by rw[HR.out];simp
  have ow:=Hd hr;clear hr HR;go_wp2_with fail;go_ret;exact TT.out _ _ _ ow.out rfl (HK.out _ Q1.out)
end
section
open Go.RowKit
def FW(P:Nat→Prop)(w0 w:World)(fb b:Nat)(φ:FsL)(K:Nat):Prop :=
 ∃(F:Nat→Prop) (sb:Nat),(∀k,own F fb k→w0.heap.size≤k)∧(∀k,own F fb k→¬P k)∧(∀k,P k→k<w.heap.size)∧kl w F fb sb b φ K∧Q w0 w
theorem cS.ok{k n:Nat}{φ:FsL}{C:Nat→Bytes}(h:cS k n φ C)(hk:k≤1000000):FOk φ:=by
 obtain⟨⟨fr,hi⟩,_⟩:=h;exact .inr ⟨hi.live,_,fr,C,hi,U⟩
section
variable {P:Nat→Prop} {w0 w wa w2:World} {fb b:Nat} {φ:FsL} {K:Nat}
theorem FW.next(h:FW P w0 w fb b φ K)(qa:Q w wa):∃(F:Nat→Prop) (sb:Nat) (v:Value),FsG wa F fb sb b φ K v∧(∀k,own F fb k→k<w.heap.size)∧(∀k,own F fb k→¬P k)∧∀W w' φ' K',Q wa W→FsR W w' F fb sb b φ' K'→FW P w0 w' fb b φ' K'∧ae (own F fb) wa w':=by
 obtain⟨F,sb,h1,h2,h3,⟨v,h4⟩,h5⟩:=h;refine⟨F,sb,v,h4.keep qa,h4.fi,h2,fun W w' φ' K' q hr=>?_⟩
 have pW:=FsR.seq (fun k hk=>.inl hk) (ae.br (qa.trans q)) hr
 have ht:ae (own F fb) wa w':=by
  obtain⟨_,_,_,t⟩:=hr;exact(ae.br q).trans t
 obtain⟨G,g1,g2,g3⟩:=pW;have hs:=h5.size;refine⟨⟨G,sb,fun k hk=>?_,fun k hk=>?_,fun k hk=>Ψ (h3 k hk) g3.size,g1,g3.low h1 h5⟩,ht⟩
 ·rcases hk with hk|hk
  ·rcases g2 k hk with hk|hk
   ·exact h1 k (.inl hk)
   ·omega
  ·exact h1 k (.inr hk)
 ·rcases hk with hk|hk
  ·rcases g2 k hk with hk|hk
   ·exact h2 k (.inl hk)
   ·intro hp;have:=h3 k hp;omega
  ·exact h2 k (.inr hk)
theorem FW.keep(h:FW P w0 w fb b φ K)(q:Q w w2):FW P w0 w2 fb b φ K:=by
 obtain⟨F,sb,h1,h2,h3,h4,h5⟩:=h;exact⟨F,sb,h1,h2,fun k hk=>Ψ (h3 k hk) q.size,h4.keep q,h5.trans q⟩
theorem FW.mono{K':Nat}(h:FW P w0 w fb b φ K)(hk:K≤K'):FW P w0 w fb b φ K':=by
 obtain⟨F,sb,h1,h2,h3,h4,h5⟩:=h;exact⟨F,sb,h1,h2,h3,h4.mono hk,h5⟩
theorem FW.q(h:FW P w0 w fb b φ K):Q w0 w:=by
 obtain⟨F,sb,h1,h2,h3,h4,h5⟩:=h;exact h5
end
def WW(w0 w:World)(wb fb b:Nat)(φ:FsL)(K:Nat):Prop:=FW (fun k=>k=wb) w0 w fb b φ K∧Blk w wb 33 #[au b,au fb]
section
variable {w0 w wa w2:World} {wb fb b:Nat} {φ:FsL} {K:Nat}
theorem WW.cells(h:WW w0 w wb fb b φ K):w.cell? ⟨wb,0,none⟩=some (au b)∧w.cell? ⟨wb,1,none⟩=some (au fb):=⟨h.2.cell 0 _ rfl,h.2.cell 1 _ rfl⟩
theorem WW.keep(h:WW w0 w wb fb b φ K)(q:Q w w2):WW w0 w2 wb fb b φ K:=⟨h.1.keep q,h.2.stays q⟩
theorem WW.mono{K':Nat}(h:WW w0 w wb fb b φ K)(hk:K≤K'):WW w0 w wb fb b φ K':=⟨h.1.mono hk,h.2⟩
theorem WW.q(h:WW w0 w wb fb b φ K):Q w0 w:=h.1.q
theorem WW.next(h:WW w0 w wb fb b φ K)(qa:Q w wa):∃(F:Nat→Prop) (sb:Nat) (v:Value),FsG wa F fb sb b φ K v∧(∀k,own F fb k→k<w.heap.size)∧¬own F fb wb∧∀W w' φ' K',Q wa W→FsR W w' F fb sb b φ' K'→WW w0 w' wb fb b φ' K'∧ae (own F fb) wa w':=by
 obtain⟨F,sb,v,h1,h2,h3,h4⟩:=h.1.next qa;have hn:¬own F fb wb:=fun hc=>h3 wb hc rfl
 exact⟨F,sb,v,h1,h2,hn,fun W w' φ' K' q hr=>⟨⟨(h4 W w' φ' K' q hr).1,(h4 W w' φ' K' q hr).2.blk (h.2.stays qa) hn⟩,(h4 W w' φ' K' q hr).2⟩⟩
end
theorem ae.nine{F:Nat→Prop}{w w':World}(t:ae F w w'){x wb:Nat}{c0 c1 c2 c3 c4 c5 c6:Value}(n0:¬F wb)(n1:¬F x){o:Nat}(h0:w.cell? ⟨wb,o,none⟩=some c0)(h1:w.cell? ⟨x,0,none⟩=some c1)(h2:w.cell? ⟨x,1,none⟩=some c2)(h3:w.cell? ⟨x,2,none⟩=some c3)(h4:w.cell? ⟨x,3,none⟩=some c4)(h5:w.cell? ⟨x,4,none⟩=some c5)(h6:w.cell? ⟨x,5,none⟩=some c6){c7:Value}(h7:w.cell? ⟨x,6,none⟩=some c7):
  w'.cell? ⟨wb,o,none⟩=some c0∧w'.cell? ⟨x,0,none⟩=some c1∧w'.cell? ⟨x,1,none⟩=some c2∧w'.cell? ⟨x,2,none⟩=some c3∧w'.cell? ⟨x,3,none⟩=some c4∧w'.cell? ⟨x,4,none⟩=some c5∧w'.cell? ⟨x,5,none⟩=some c6∧w'.cell? ⟨x,6,none⟩=some c7:=⟨t.cell h0 n0,t.cell h1 n1,t.cell h2 n1,t.cell h3 n1,t.cell h4 n1,t.cell h5 n1,t.cell h6 n1,t.cell h7 n1⟩
theorem qn{w w':World}(q:Q w w'){x wb o:Nat}{c0 c1 c2 c3 c4 c5 c6 c7:Value}(h0:w.cell? ⟨wb,o,none⟩=some c0)(h1:w.cell? ⟨x,0,none⟩=some c1)(h2:w.cell? ⟨x,1,none⟩=some c2)(h3:w.cell? ⟨x,2,none⟩=some c3)(h4:w.cell? ⟨x,3,none⟩=some c4)(h5:w.cell? ⟨x,4,none⟩=some c5)(h6:w.cell? ⟨x,5,none⟩=some c6)(h7:w.cell? ⟨x,6,none⟩=some c7):
  w'.cell? ⟨wb,o,none⟩=some c0∧w'.cell? ⟨x,0,none⟩=some c1∧w'.cell? ⟨x,1,none⟩=some c2∧w'.cell? ⟨x,2,none⟩=some c3∧w'.cell? ⟨x,3,none⟩=some c4∧w'.cell? ⟨x,4,none⟩=some c5∧w'.cell? ⟨x,5,none⟩=some c6∧w'.cell? ⟨x,6,none⟩=some c7:=⟨aj q h0,aj q h1,aj q h2,aj q h3,aj q h4,aj q h5,aj q h6,aj q h7⟩
theorem Blk.c7{w:World}{k:Nat}{t:TypeId}{a0 a1 a2 a3 a4 a5 a6:Value}(h:Blk w k t #[a0,a1,a2,a3,a4,a5,a6]):
  w.cell? ⟨k,0,none⟩=some a0∧w.cell? ⟨k,1,none⟩=some a1∧w.cell? ⟨k,2,none⟩=some a2∧w.cell? ⟨k,3,none⟩=some a3∧w.cell? ⟨k,4,none⟩=some a4∧w.cell? ⟨k,5,none⟩=some a5∧w.cell? ⟨k,6,none⟩=some a6 :=
 ⟨h.cell 0 _ rfl,h.cell 1 _ rfl,h.cell 2 _ rfl,h.cell 3 _ rfl,h.cell 4 _ rfl,h.cell 5 _ rfl,h.cell 6 _ rfl⟩
theorem cL.nd(a:cL):a.data.length≤6002:=by
 unfold cL.data;rw[Nx];have:=Ev a.n 6003 Z;omega
theorem XO(w0 w wx:World)(wb fb b:Nat)(φ:FsL)(K:Nat)(h:WW w0 w wb fb b φ K)(qx:Q w wx)(hI:FOk φ)(hK:K≤900000000000000000)(ka:Option Addr)(kn kc:Nat)(a:cL)(ha:a.Wf)(hl:a.name.length≤1000∧a.tO.length≤1000)(most:Int)(hk:a.k<9):
  Calls prog 13 #[au wb,lj (.slice ka kn kc) a,.int .i64 most] wx fun e w'=>e=.returned (.tuple #[ah (zi a φ),.int .i64 (fJ a φ).2])∧WW w0 w' wb fb b (fJ a φ).1 (K+3000000000)∧ae (fun k=>k<w.heap.size) wx w':=by
 obtain⟨wa,dO⟩:∃wa,wa=wx.alloc (.cells #[.int .i64 a.op,.int .i64 a.at_,.int .i64 a.n,ah a.name,ah a.tO,.slice ka kn kc,.int .u8 (a.byte.toNat:Nat)] 37):=⟨_,rfl⟩;have qa:Q wx wa:=by rw[dO];exact Q.alloc _ _
 have bZ:Blk wa wx.heap.size 37 #[.int .i64 a.op,.int .i64 a.at_,.int .i64 a.n,ah a.name,ah a.tO,.slice ka kn kc,.int .u8 (a.byte.toNat:Nat)]:=by rw[dO];exact Blk.new wx _ _
 obtain⟨F,sb,v,hg,ay,rV,bL⟩:=h.next (qx.trans qa);have hqs:=qx.size;have Zu:¬own F fb wx.heap.size:=fun hf=>by have:=ay _ hf;omega
 have JF:∀w',ae (own F fb) wa w'→ae (fun k=>k<w.heap.size) wx w':=fun w' t=>((ae.br qa).trans t).mono ay
 have iG:∀W,Calls prog 12 #[.agg #[.int .i64 a.op,.int .i64 a.at_,.int .i64 a.n,ah a.name,ah a.tO,.slice ka kn kc,.int .u8 (a.byte.toNat:Nat)]] W fun e w'=>e=.returned (ah a.data)∧Q W w':=fun W=>abf ka kn kc a W ha
 have gV:=a.nd;have ha1:=ha.at_;have nU:a.k=0→∀W,Q wa W→Calls prog 9 #[au fb,ah a.name] W fun e w'=>e=.returned (.int .i64 (fJ a φ).2)∧WW w0 w' wb fb b (fJ a φ).1 (K+3000000000)∧ae (own F fb) wa w':=fun hz W q=>by
  have e:fJ a φ=φ.create a.name:=by unfold fJ;rw[Φ hz]
  rw[e];exact(Jg W F fb sb b φ K v a.name (hg.keep q) hI U U).mono fun e w' hx=>⟨hx.1,(bL W w' _ _ q hx.2).1.mono U,(bL W w' _ _ q hx.2).2⟩
 have ug:a.k=5→∀W,Q wa W→Calls prog 14 #[au fb,ah a.name,.int .i64 a.at_,.int .i64 a.n] W fun e w'=>e=.returned (.tuple #[ah (zi a φ),.int .i64 (fJ a φ).2])∧WW w0 w' wb fb b (fJ a φ).1 (K+3000000000)∧ae (own F fb) wa w':=fun hz W q=>by
  have e:fJ a φ=(φ,(φ.cC a.name a.at_ a.n).2):=by unfold fJ;rw[η U,Φ hz]
  have e2:zi a φ=(φ.cC a.name a.at_ a.n).1:=by unfold zi;rw[Φ hz]
  rw[e,e2];exact(Jh W F fb sb b φ K v a.name a.at_ a.n (hg.keep q) hI U ha1).mono fun e w' hx=>⟨hx.1,(bL W w' _ _ q hx.2).1.mono U,(bL W w' _ _ q hx.2).2⟩
 have rD:a.k=6→∀W,Q wa W→Calls prog 23 #[au fb,ah a.name] W fun e w'=>e=.returned (.int .i64 (fJ a φ).2)∧WW w0 w' wb fb b (fJ a φ).1 (K+3000000000)∧ae (own F fb) wa w':=fun hz W q=>by
  have e:fJ a φ=φ.gd a.name:=by unfold fJ;rw[η U,η U,Φ hz]
  rw[e];exact(N8 W F fb sb b φ K v a.name (hg.keep q) hI U).mono fun e w' hx=>⟨hx.1,(bL W w' _ _ q hx.2).1.mono U,(bL W w' _ _ q hx.2).2⟩
 have hrn:a.k=7→∀W,Q wa W→Calls prog 21 #[au fb,ah a.name,ah a.tO] W fun e w'=>e=.returned (.int .i64 (fJ a φ).2)∧WW w0 w' wb fb b (fJ a φ).1 (K+3000000000)∧ae (own F fb) wa w':=fun hz W q=>by
  have e:fJ a φ=φ.rename a.name a.tO:=by unfold fJ;rw[η U,η U,η U,Φ hz]
  rw[e];exact(Ji W F fb sb b φ K v a.name a.tO (hg.keep q) hI U U).mono fun e w' hx=>⟨hx.1,(bL W w' _ _ q hx.2).1.mono U,(bL W w' _ _ q hx.2).2⟩
 have Cu:a.k=8→∀W,Q wa W→Calls prog 24 #[au fb,ah a.name] W fun e w'=>e=.returned (.int .i64 (fJ a φ).2)∧WW w0 w' wb fb b (fJ a φ).1 (K+3000000000)∧ae (own F fb) wa w':=fun hz W q=>by
  have e:fJ a φ=φ.delete a.name:=by unfold fJ;rw[η U,η U,η U,η U,Φ hz]
  rw[e];exact(Gw W F fb sb b φ K v a.name (hg.keep q) hI U).mono fun e w' hx=>⟨hx.1,(bL W w' _ _ q hx.2).1.mono U,(bL W w' _ _ q hx.2).2⟩
 have uV:1≤a.k∧a.k≤4→∀W,Q wa W→Calls prog 11 #[au fb,ah a.name,ah a.data] W fun e w'=>e=.returned (.int .i64 (fJ a φ).2)∧WW w0 w' wb fb b (fJ a φ).1 (K+3000000000)∧ae (own F fb) wa w':=fun hz W q=>by
  have e:fJ a φ=φ.append a.name a.data:=by unfold fJ;rw[η U,η U,η U,η U,η U]
  rw[e];exact(Jj W F fb sb b φ K v a.name a.data (hg.keep q) hI U U).mono fun e w' hx=>⟨hx.1,(bL W w' _ _ q hx.2).1.mono U,(bL W w' _ _ q hx.2).2⟩
 have hT:a.k≠5→zi a φ=[]:=fun hz=>by unfold zi;rw[η hz]
 have fV:=fun (W:World)=>Ch a.op 11 W ha.op.1 ha.op.2 Z Z
 obtain⟨b0,b1,b2,b3,b4,b5,b6⟩:=bZ.c7;have c1:=(h.keep (qx.trans qa)).cells.2;have iN:a.k=lC a.op 11:=rfl;rw[iN] at nU ug rD hrn Cu uV hT hk;have rJ:=Hd iG;have xZ:=Hd nU;have Ie:=Hd ug;have Mv:=Hd rD;have HRN:=Hd hrn;have TM:=Hd Cu;have JD:=Hd uV;have kY:=Hd fV;have HT:=Hd hT;have nW:=Hd JF;have HWB:=Hd rV;have HBF:=Hd Zu;clear iG nU ug rD hrn Cu uV fV hT rV Zu bL ay hg bZ qa qx h hI gV ha1 iN JF hqs;generalize fJ a φ=D at *;generalize zi a φ=T at *;generalize a.data=dt at *;generalize lC a.op 11=pz at *;obtain hz|hz|hz|hz|hz|hz:pz=0∨(1≤pz∧pz≤4)∨pz=5∨pz=6∨pz=7∨pz=8:=U;all_goals
  first
   | (have hm:=xZ.out hz;have ht:=HT.out U;subst hz)
   | (have hm:=Ie.out hz;have ht:T=T:=rfl;subst hz)
   | (have hm:=Mv.out hz;have ht:=HT.out U;subst hz)
   | (have hm:=HRN.out hz;have ht:=HT.out U;subst hz)
   | (have hm:=TM.out hz;have ht:=HT.out U;subst hz)
   | (have hm:=JD.out hz;have ht:=HT.out U;have D8:¬(pz:Int)=0:=U;have iq:¬(pz:Int)=5:=U;have Vt:¬(pz:Int)=6:=U;have Y6:¬(pz:Int)=7:=U;have hp5:¬(pz:Int)=8:=U;have hp6:¬(pz:Int)=9:=U;have hp7:¬(pz:Int)=10:=U)
  rw[ht];have HM:=Hd hm;clear hm ht xZ Ie Mv HRN TM JD HT hk;unfold lj;go_enter func13,ntmps13;go_wp2_with fail;rw[←dO];clear dO;refine(kY.out _).mono ?_;rintro e w1 ⟨rfl,rfl⟩;have KK:=Hd (Q.refl wa);go_wp2_with fail
  (go_region_held3 (fun w'=>w'.cell? ⟨wb,1,none⟩=some (au fb)∧w'.cell? ⟨wx.heap.size,0,none⟩=some (.int .i64 a.op)∧w'.cell? ⟨wx.heap.size,1,none⟩=some (.int .i64 a.at_)∧w'.cell? ⟨wx.heap.size,2,none⟩=some (.int .i64 a.n)∧w'.cell? ⟨wx.heap.size,3,none⟩=some (ah a.name)∧w'.cell? ⟨wx.heap.size,4,none⟩=some (ah a.tO)∧w'.cell? ⟨wx.heap.size,5,none⟩=some (.slice ka kn kc)∧w'.cell? ⟨wx.heap.size,6,none⟩=some (.int .u8 (a.byte.toNat:Nat)))
   (first|exact g0|exact⟨c1,b0,b1,b2,b3,b4,b5,b6⟩|exact qn δ c1 b0 b1 b2 b3 b4 b5 b6)
   (first
    | (go_at_call 12;with_reducible refine(rJ.out _).mono ?_;rintro e w3 ⟨rfl,q3⟩;have s':Q wa w3:=Q.trans ω q3;clear KK;have KK:=Hd s';clear s' q3)
    | (with_reducible refine(HM.out _ ω).mono ?_;rintro e w5 ⟨rfl,h5,t5⟩;have g0:=ae.nine t5 HWB.out HBF.out c1 b0 b1 b2 b3 b4 b5 b6;have H5:=Hd h5;have T5:=Hd (nW.out _ t5);clear h5 t5)))
  all_goals
   go_wp2_with fail;go_returns;exact⟨rfl,H5.out,T5.out⟩
end
end Go.Proofs.YtbkahhebmpehnaaGreatDoor
