/- Joined: WFsP to WFtA -/
import Derived.Test.YtonlbpljghohmaaGreatDoorCWWInoI
set_option linter.all false
set_option maxRecDepth 100000
set_option maxHeartbeats 8000000
namespace Go.Proofs.YtonlbpljghohmaaGreatDoor
open Go.Proofs.Tryz
section
open Go.RowKit
def RdS(w0 w:World)(G:Nat→Prop)(fb sb b:Nat)(φ:FsL)(K:Nat)(v:Value)(B:Nat)(l:Bytes):Prop :=
 ∃(G1:Nat→Prop) (r:Option Nat),FsG w G1 fb sb b φ K v∧(∀k,G1 k→grow G w0 w k)∧Bld w w0.heap.size B r l∧¬own G1 fb B∧(∀k,r=some k→¬own G1 fb k)∧ae (own G fb) w0 w∧cn (fun k=>¬own G fb k) w0 v φ.l
section
variable {w0 w w':World} {G:Nat→Prop} {fb sb b:Nat} {φ:FsL} {K:Nat} {v:Value} {B:Nat} {l:Bytes}
theorem RdS.t(h:RdS w0 w G fb sb b φ K v B l):ae (own G fb) w0 w:=by
 obtain⟨G1,r,h1,h2,h3,h4,h5,h6,h7⟩:=h;exact h6
theorem RdS.k(h:RdS w0 w G fb sb b φ K v B l):FsK w0 w G fb sb b φ K v:=by
 obtain⟨G1,r,h1,h2,h3,h4,h5,h6,h7⟩:=h;exact⟨G1,h1,h2,h6⟩
theorem RdS.q(h:RdS w0 w G fb sb b φ K v B l)(q:Q w w'):RdS w0 w' G fb sb b φ K v B l:=by
 obtain⟨G1,r,h1,h2,h3,h4,h5,h6,h7⟩:=h;exact⟨G1,r,h1.keep q,fun k hk=>(h2 k hk).imp id fun hk=>⟨hk.1,Ψ hk.2 q.size⟩,h3.stays (q.block _ h3.lt) (fun k hk=>q.block _ (h3.row k hk).2) q.size,h4,h5,h6.trans (ae.br q),h7⟩
theorem RdS.new(h:FsG w G fb sb b φ K v):RdS w (w.alloc (.cells #[.pointer none,.slice none 0 0] 104)) G fb sb b φ K v w.heap.size []:=by
 have q:=Q.alloc w (.cells #[.pointer none,.slice none 0 0] 104);have hb:¬own G fb w.heap.size:=fun hc=>by have:=h.fy _ hc;omega
 exact⟨G,none,h.keep q,fun k hk=>.inl hk,Bld.new w _ (Ω _),hb,fun k hk=>by simp at hk,ae.br q,h.files⟩
theorem RdS.read(h:RdS w0 w G fb sb b φ K v B l)(i:Int)(hn:iL φ.st)(hK:K≤1000000000000000000):
  Calls prog 50 #[au sb,.int .i64 i] w fun e w'=>e=.returned (.tuple #[ah (φ.st.read i).1,.int .i64 (φ.st.read i).2])∧RdS w0 w' G fb sb b φ (K+1) v B l:=by
 obtain⟨G1,r,h1,h2,h3,h4,h5,h6,h7⟩:=h;refine(vj w G1 sb b φ.st K i h1.st hn hK).mono fun e w' hx=>⟨hx.1,?_⟩
 have t:=hx.2.2;have bP:=t.size;have h6s:=h6.size;have hlB:=h3.lt;have JJ:=h1.call hx.2.1 t;refine⟨_,r,JJ,fun k hk=>?_,h3.stays (t.block _ h3.lt (fun hc=>h4 (.inl hc))) (fun k hk=>t.block _ (h3.row k hk).2 (fun hc=>h5 k hk (.inl hc))) bP,fun hc=>?_,fun k hk hc=>?_,?_,h7⟩
 ·rcases hk with hk|hk
  ·exact(h2 k hk).imp id fun hk=>⟨hk.1,U⟩
  ·exact .inr ⟨U,hk.2⟩
 ·rcases hc with (hc|hc)|hc
  ·exact h4 (.inl hc)
  ·omega
  ·exact h4 (.inr hc)
 ·have:=(h3.row k hk).2
  rcases hc with (hc|hc)|hc
  ·exact h5 k hk (.inl hc)
  ·omega
  ·exact h5 k hk (.inr hc)
 ·refine⟨t.os.trans h6.os,t.tape.trans h6.tape,t.output.trans h6.output,U,fun k hk hn=>(t.block k U (fun hc=>?_)).trans (h6.block k hk hn)⟩
  rcases h2 k hc with hc|hc
  ·exact hn (.inl hc)
  ·omega
theorem RdS.write(h:RdS w0 w G fb sb b φ K v B l)(s:Bytes)(hl:l.length+s.length≤140737488355328):Calls prog 52 #[.pointer (some ⟨B,0,none⟩),.string ⟨s.toArray⟩] w fun e w' =>
  e=.returned (.tuple #[.int .i64 s.length,.nilIface])∧RdS w0 w' G fb sb b φ K v B (l++s):=by
 obtain⟨G1,r,h1,h2,h3,h4,h5,h6,h7⟩:=h;refine(xA _ B r l s w h3 hl h6.size).mono ?_;rintro e w' ⟨rfl,hs,r',h3',hf⟩;refine⟨rfl,?_⟩;have bP:=hs.size;have t:ae (fun k=>k=B∨some k=r) w w':=⟨hs.os,hs.tape,hs.output,hs.size,fun k hk hn=>hs.block k hk (fun e=>hn (.inl e)) (fun e=>hn (.inr e))⟩
 have hd:∀k,own G1 fb k→¬(k=B∨some k=r):=fun k hk hc=>hc.elim (fun e=>h4 (e▸hk)) (fun e=>h5 k e.symm hk)
 have hq:=h3.below hs h6.size;have h8:ae (own G fb) w0 w':=⟨hs.os.trans h6.os,hs.tape.trans h6.tape,hs.output.trans h6.output,by have:=h6.size;omega,fun k hk hn=>(hq.block k hk).trans (h6.block k hk hn)⟩
 have h9:∀k,G1 k→grow G w0 w' k:=fun k hk=>(h2 k hk).imp id fun hk=>⟨hk.1,U⟩
 refine⟨G1,r',⟨h1.st.beside t (fun k hk=>hd k (.inl hk)),t.blk h1.box (hd fb (.inr rfl)),h1.nb,FsG.moved h9 h8 h7⟩,h9,h3',h4,fun k hk hc=>?_,h8,h7⟩
 rcases hf with e|⟨g,e,hg⟩
 ·exact h5 k (by rw[←e];exact hk) hc
 ·rw[e] at hk
  have:=h1.fy k hc;cases hk;omega
theorem RdS.str(h:RdS w0 w G fb sb b φ K v B l):Calls prog 53 #[.pointer (some ⟨B,0,none⟩)] w fun e w'=>e=.returned (ah l)∧FsK w0 w' G fb sb b φ K v:=by
 have hk:=h.k;obtain⟨G1,r,h1,h2,h3,h4,h5,h6,h7⟩:=h;cases l with
 | nil=>exact(Ll w0.heap.size B r w h3).mono fun e w' ⟨x1,x2⟩=>⟨x1,hk.q x2⟩
 | cons y l =>
  refine(Jb w0.heap.size B r (y::l) w h3 κ).mono ?_;rintro e w' ⟨rfl,hs,_⟩;have bP:=hs.size;have t:ae (fun k=>k=B∨some k=r) w w':=⟨hs.os,hs.tape,hs.output,hs.size,fun k hk hn=>hs.block k hk (fun e=>hn (.inl e)) (fun e=>hn (.inr e))⟩
  have hd:∀k,own G1 fb k→¬(k=B∨some k=r):=fun k hk hc=>hc.elim (fun e=>h4 (e▸hk)) (fun e=>h5 k e.symm hk)
  have hq:=h3.below hs h6.size;have h8:ae (own G fb) w0 w':=⟨hs.os.trans h6.os,hs.tape.trans h6.tape,hs.output.trans h6.output,by have:=h6.size;omega,fun k hk hn=>(hq.block k hk).trans (h6.block k hk hn)⟩
  have h9:∀k,G1 k→grow G w0 w' k:=fun k hk=>(h2 k hk).imp id fun hk=>⟨hk.1,U⟩
  exact⟨rfl,G1,⟨h1.st.beside t (fun k hk=>hd k (.inl hk)),t.blk h1.box (hd fb (.inr rfl)),h1.nb,FsG.moved h9 h8 h7⟩,h9,h8⟩
end
end
section
open Go.RowKit
theorem oA(g:Nat→Bytes)(bs:List Nat):∀(q r k:Nat) (hq:q<bs.length),(∀i∈bs,(g i).length=256)→r+k≤256→((bs.flatMap g).drop (256*q+r)).take k=((g bs[q]).drop r).take k:=by
 induction bs with
 | nil=>intro q r k hq;simp at hq
 | cons b bs ih =>
  intro q r k hq hg hr;have hb:=hg b (Nm ..);rw[OR];cases q with
  | zero =>
   rw[acG,PF,acI U,Se (by rw[MM];omega)]
   rfl
  | succ q =>
   rw[aaf,XN U,Pr,hb,show 256*(q+1)+r-256=256*q+r by omega]
   exact ih q r k (by simpa using hq) (fun i hi=>hg i (M1 _ hi)) hr
theorem rm(g:Nat→Bytes)(bs:List Nat)(a m k:Nat)(hq:(a+m) / 256<bs.length)(hg:∀i∈bs,(g i).length=256)(hr:(a+m)%256+k≤256):((bs.flatMap g).drop a).take m++((g bs[(a+m) / 256]).drop ((a+m)%256)).take k=((bs.flatMap g).drop a).take (m+k):=by
 have h:=oA g bs ((a+m) / 256) ((a+m)%256) k hq hg hr;rw[Nat.div_add_mod] at h;rw[←h,ad5,Ps]
theorem Oa(W:World)(G:Nat→Prop)(fb sb b:Nat)(φ:FsL)(K:Nat)(v:Value)(f:ax)(av:Value)(a n:Nat)(hG:FsG W G fb sb b φ K v)(ha:SlP (fun k=>¬own G fb k) W av f.ext.length 2 (ext f.ext))(hn:iL φ.st)(hd:φ.st.dead=false)(hl:f.ext.length≤1000)(he:∀e∈f.ext,e.1+e.2≤100000)(hb:(aT f.ext).length≤100000)
  (dZ:∀i∈aT f.ext,φ.st.cP (i:Nat)=true∧(φ.st.get i).length=256) (han:a+n≤256*(aT f.ext).length) (hK:K+n+2≤1000000000000000000) :
  Calls prog 48 #[au fb,oN f av,.int .i64 (a:Nat),.int .i64 (n:Nat)] W fun e w'=>e=.returned (.tuple #[ah ((((aT f.ext).flatMap φ.st.get).drop a).take n),.int .i64 0])∧FsK W w' G fb sb b φ (K+n) v:=by
 obtain⟨wa,dO⟩:∃wa,wa=W.alloc (.cells #[ah f.name,.bool f.sl,.int .i64 (f.size:Nat),av] 56):=⟨_,rfl⟩;have qa:Q W wa:=by rw[dO];exact Q.alloc _ _
 have bZ:Blk wa W.heap.size 56 #[ah f.name,.bool f.sl,.int .i64 (f.size:Nat),av]:=by rw[dO];exact Blk.new W _ _
 have hblk:=Dp wa f av (ha.1.stays qa) hl he hb;have nM:∀w1,Q wa w1→RdS w1 (w1.alloc (.cells #[.pointer none,.slice none 0 0] 104)) G fb sb b φ K v w1.heap.size []:=fun w1 q=>RdS.new (hG.keep (qa.trans q))
 have dK:∀w1 w2,Q wa w1→FsK w1 w2 G fb sb b φ (K+n) v→FsK W w2 G fb sb b φ (K+n) v:=fun w1 w2 q h=>FsK.seq (fun k hk=>.inl hk) (ae.br (qa.trans q)) h
 have aF:=hG.fy;have dz:∀i∈aT f.ext,φ.st.read (i:Nat)=(φ.st.get i,0):=fun i hi=>by unfold StL.read;rw[hd,(dZ i hi).1];rfl
 have kU:=rm φ.st.get (aT f.ext) a;have Pp:=fun i hi=>(dZ i hi).2
 obtain⟨d0,d1,d2,d3,_⟩:=bZ.c4;obtain⟨aa,an,ac,rfl⟩:=ha.value;have aiI:=Hd hblk;have vU:=Hd nM;have nT:=Hd dK;have aiJ:=Hd aF;have iO:=Hd dz;have aX:=Hd kU;have V8:=Hd Pp;have HN:=Hd hn;have zH:=Hd qa;clear hblk nM dK aF dz kU Pp hn hG ha bZ dZ hd he qa;obtain⟨fn,fsl,fsz,x⟩:=f;simp only[] at *;generalize aT x=bs at *;generalize hD:bs.flatMap φ.st.get=D at *;have e1:IntKind.i64.wrap ((a:Int)+(n:Int))=(a:Int)+(n:Int):=IntWalk.i64_in _ U;unfold oN;go_enter func48,ntmps48;go_upto_region 1 with fail;rw[←dO];clear dO;go_wp2_with fail;refine aiI.out.mono ?_;rintro e w1 ⟨lv,rfl,ho,q1⟩;have lI:=aY ho;obtain⟨la,lc,rfl,om⟩:=lI;have hRD:=vU.out w1 q1;have aP:∀wr,ae (own G fb) w1 wr→∀k (hk:k<bs.length),∃g,la=some ⟨g,0,none⟩∧wr.cell? ⟨g,k,none⟩=some (.int .i64 (bs[k]:Nat)):=fun wr t k hk=>by
  obtain⟨g,rfl⟩:=om U;have ay:=ho.lt g rfl;refine⟨g,rfl,t.cell ?_ (fun hc=>by have h9:own G fb g:=hc;have:=aiJ.out _ h9;have:=zH.out.size;have:=ay.1;omega)⟩
  rw[ho.cellAt k U,UB,Mp hk];rfl
 have ab4:=Hd aP;have Q1:=Hd q1;have aiK:=Hd hRD;clear aP ho om q1 hRD d0 d1 d2 d3;go_wp2_with fail;go_loopw [12] (fun i wr=>∃m:Nat,i=.int .i64 ((a+m:Nat):Int)∧m≤n∧Hid (RdS w1 wr G fb sb b φ (K+m) v w1.heap.size ((D.drop a).take m))) (fun i _=>a+n-(intOf i).toNat)
 case atStart=>exact⟨0,rfl,MD _,by rw[TE];exact aiK⟩
 case round =>
  obtain⟨m,rfl,hm,HR⟩:=hrel;by_cases ay:m<n
  ·have bq:((a+m:Nat):Int)<(a:Int)+(n:Int):=U
   have hq:(a+m) / 256<bs.length:=U;obtain⟨g,rfl,c1⟩:=ab4.out wr HR.out.t _ hq;obtain⟨c0,_⟩:=HR.out.k.cells;have eF:bs[(a+m) / 256]∈bs:=MA hq;have dz:=fun (X:World) (q:Q wr X)=>(HR.out.q q).read (bs[(a+m) / 256]:Nat) HN.out U
   rw[iO.out _ eF] at dz;simp only[] at dz;have ht:=V8.out _ eF;obtain⟨r,hr⟩:∃r,r=(a+m)%256:=⟨_,rfl⟩;obtain⟨k,hk⟩:∃k,k=min 256 (r+(n-m))-r:=⟨_,rfl⟩;have pW:r<256:=U;have Bv:0<k:=U;have kW:r+k≤256:=U;have rH:m+k≤n:=U;have aC:=aX.out m k hq V8.out U;rw[←hr] at aC;generalize Eb:φ.st.get bs[(a+m) / 256]=t at *;clear Eb;have jB:=fun (w5:World) (h5:RdS w1 w5 G fb sb b φ (K+m+1) v w1.heap.size ((D.drop a).take m))=>h5.write ((t.drop r).take k) (by simp only[Mz,MM];omega)
   rw[aC] at jB;have hlen:((t.drop r).take k).length=k:=by rw[Mz,MM];omega
   have Cx:∀w5,RdS w1 w5 G fb sb b φ (K+m+1) v w1.heap.size ((D.drop a).take m)→w5.cell? ⟨fb,0,none⟩=some (au sb)∧w5.cell? ⟨g,(a+m) / 256,none⟩=some (.int .i64 (bs[(a+m) / 256]:Nat)):=fun w5 h5=>by
    obtain⟨g',e,c⟩:=ab4.out w5 h5.t _ hq;simp only[N6,Addr.mk.injEq,and_true] at e;rw[e];exact⟨h5.k.cells.1,c⟩
   have x1:({ data:=t.toArray }:ByteArray).extract r (r+k)=⟨((t.drop r).take k).toArray⟩:=by rw[eY,Nat.add_sub_cancel_left]
   generalize bs[(a+m) / 256]=bi at *;have f1:((a+m:Nat):Int).tdiv 256=(((a+m) / 256:Nat):Int):=rfl;have f2:((a+m:Nat):Int).tmod 256=(r:Int):=by rw[hr];rfl
   generalize (a+m) / 256=q at *;obtain⟨fr,dQ⟩:∃fr,fr=a+m:=⟨_,rfl⟩;have M6:fr+k=a+(m+k):=U;rw[←dQ] at f1 f2 bq;have f3:IntKind.i64.wrap ((r:Int)+(a:Int))=(r:Int)+(a:Int):=IntWalk.i64_in _ U;have f4:IntKind.i64.wrap ((r:Int)+(a:Int)+(n:Int))=(r:Int)+(a:Int)+(n:Int):=IntWalk.i64_in _ U;have f5:IntKind.i64.wrap ((r:Int)+(a:Int)+(n:Int)-(fr:Int))=(r:Int)+(a:Int)+(n:Int)-(fr:Int):=IntWalk.i64_in _ U;have f6:min (256:Int) ((r:Int)+(a:Int)+(n:Int)-(fr:Int))=((r+k:Nat):Int):=U;have f7:(0:Int)≤(q:Int):=U;have f8:(q:Int)<(bs.length:Int):=U;have f9:IntKind.i64.wrap ((fr:Int)+(k:Int))=((fr+k:Nat):Int):=by rw[IntWalk.i64_in _ U];omega
   have f10:IntKind.i64.wrap (q:Int)=(q:Int):=IntWalk.i64_in _ U;have f11:IntKind.i64.wrap (r:Int)=(r:Int):=IntWalk.i64_in _ U;have f12:fr=a+m:=dQ;rw[←dQ];have VN:=Hd M6;have Sv:=Hd f12;clear dQ M6 f12 hr hk;have aiL:=Hd dz;have vC:=Hd jB;have Hg:=Hd Cx;have Zh:=Hd (And.intro Bv (And.intro rH hm));have Ct:=Hd HR.out;clear dz jB Cx aC eF HR hD;have c0d:=aj (Q.drew wr) c0;have c1d:=aj (Q.drew wr) c1;have KK:=Hd (Q.refl wr);go_wp2_with fail
   (go_region_held3 (fun w'=>w'.cell? ⟨fb,0,none⟩=some (au sb)∧w'.cell? ⟨g,q,none⟩=some (.int .i64 (bi:Nat)))
    (first|exact g0|exact⟨c0,c1⟩|exact⟨c0d,c1d⟩)
    (first
     | (go_at_call 50;refine(aiL.out wr.drew (Q.drew wr)).mono ?_;rintro e w5 ⟨rfl,h5⟩;have g0:=Hg.out w5 h5;have H5:=Hd h5;clear h5)))
   all_goals
    have RB:=vC.out w5 H5.out;have HWW:=Hd RB;clear RB;go_wp2_with fail;refine HWW.out.mono ?_;rintro e w6 ⟨rfl,h6⟩;have H6:=Hd h6;clear h6 g0;go_wp2_with fail;have h6:=H6.out;obtain⟨g1,g2,g3⟩:=Zh.out;have g4:=VN.out;have g5:=Sv.out;refine⟨⟨m+k,by rw[←g4];go_num,g2,Hd ?_⟩,by simp[intOf];omega⟩
    obtain⟨G1,r1,y1,y2,y3,y4,y5,y6,y7⟩:=h6;exact⟨G1,r1,⟨y1.st.mono (fun _ x=>x) y1.st.lt U,y1.box,y1.nb,y1.files⟩,y2,y3,y4,y5,y6,y7⟩
  ·obtain rfl:m=n:=U
   have bq:¬((a+m:Nat):Int)<(a:Int)+(m:Int):=U;have hs:=HR.out.str;have HS:=Hd hs;clear hs HR;go_wp2_with fail;refine HS.out.mono ?_;rintro e w3 ⟨rfl,h3⟩;have H3:=Hd (nT.out _ _ Q1.out h3);clear h3;go_wp2_with fail;go_returns;exact⟨rfl,H3.out⟩
end
section
open Go.RowKit
theorem Bc(x:List (Nat×Nat))(h:∀e∈x,e.2≤4096):(aT x).length≤4096*x.length:=by
 induction x with
 | nil=>exact MD _
 | cons e x ih =>
  have h1:=h e (Nm ..);have h2:=ih (fun y hy=>h y (M1 _ hy))
  unfold aT at *;rw[OR,Δ,WF,Mu];omega
section
variable {KI:Nat} {φ:FsL} {fr:List (List WrL)} {C:Nat→Bytes}
theorem bz.blk(h:bz KI φ fr C)(f:ax)(hf:f∈φ.l):∀i∈aT f.ext,φ.st.cP (i:Nat)=true∧(φ.st.get i).length=256:=fun i hi=>by
 have hm:=h.good.ok.mem (PT.2 ⟨f,hf,hi⟩)
 have lK:63≤ak φ.st.n:=by unfold ak;omega
 refine⟨?_,?_⟩
 ·unfold StL.cP;simp;omega
 ·rw[h.st.get i U hm.2]
  exact ox (fun i h1 h2=>h.st.len i h1 h2) (fun w hw=>(h.st.ie w hw).2.2) i U hm.2
theorem bz.exts(h:bz KI φ fr C)(f:ax)(hf:f∈φ.l):f.ext.length≤16∧(∀e∈f.ext,e.1+e.2≤100000)∧(aT f.ext).length≤100000∧f.size≤256*(aT f.ext).length∧f.size≤2147483647:=by
 have ho:=h.good.ok.ok f hf;have iH:=h.st.max;have hlen:=Bc f.ext (fun e he=>by have:=ho.ext e he;omega)
 have vM:=ho.few;have Cc:=ho.need;refine⟨ho.few,fun e he=>by have:=ho.ext e he;omega,U,?_,ho.size⟩
 have:(aT f.ext).length=cB f.size:=Cc;unfold cB at this;omega
end
theorem A6(g:Nat→Bytes)(f:ax)(a n:Nat)(hn:n≤f.size-a):(((aT f.ext).flatMap g).drop a).take n=((cont g f).drop a).take n:=by
 show _=((((aT f.ext).flatMap g).take f.size).drop a).take n;rw[aad,abt,Sx hn]
theorem Jh(w:World)(F:Nat→Prop)(fb sb b:Nat)(φ:FsL)(K:Nat)(v:Value)(s:Bytes)(a n:Int)(h:FsG w F fb sb b φ K v)(hI:FOk φ)(hK:K+3000000000≤1000000000000000000)(ha : -9223372036854775808≤a∧a≤9223372036854775807):
  Calls prog 18 #[au fb,ah s,.int .i64 a,.int .i64 n] w fun e w'=>e=.returned (.tuple #[ah (φ.d8 s a n).1,.int .i64 (φ.d8 s a n).2])∧FsR w w' F fb sb b φ (K+2200000000):=by
 have eP:=wB s h hI.find;have hk:∀W,Q w W→FsR w W F fb sb b φ (K+2200000000):=fun W q=>(((FsK.of h).q q).mono U).r
 have hc:φ.d8 s a n=if φ.di s≠0 then([],φ.di s) else if a<0∨((φ.at9 s).size:Int)<a∨n<0 then([],2) else(((φ.holds (φ.at9 s)).drop a.toNat).take n.toNat,0):=rfl
 have pF:φ.di s=if φ.st.dead then 4 else if isF φ.l s then 0 else 10:=rfl
 by_cases hgo:φ.st.dead=false∧isF φ.l s=true
 ·obtain⟨hd,hf⟩:=hgo
  obtain⟨KI,fr,C,hJ,gM⟩:∃KI fr C,bz KI φ fr C∧KI+4<18446744073709551616:=by
   rcases hI with h1|⟨_,h1⟩
   ·rw[hd] at h1;cases h1
   ·exact h1
  obtain⟨hp,qO⟩:=zo hf;clear qO;have eF:=MA hp;obtain⟨x1,x2,x3,x4,x5⟩:=hJ.exts _ eF;have pU:=DV φ s hp;rw[hd,hf] at eP pF;simp only[N0,PR,QQ] at eP pF;rw[pF,pU,η κ] at hc;obtain⟨g,off,cap,av,rfl,wR,FN,k0,k1,k2,k3⟩:=h.file _ hp;obtain⟨ap,am,ac,rfl⟩:=wR.value;have dz:∀X,Q w X→∀a' n':Nat,a'+n'≤φ.l[aA φ.l s].size→Calls prog 48 #[au fb,oN φ.l[aA φ.l s] (.slice ap am ac),.int .i64 (a':Nat),.int .i64 (n':Nat)] X fun e w'=>e=.returned (.tuple #[ah (((φ.holds φ.l[aA φ.l s]).drop a').take n'),.int .i64 0])∧FsR w w' F fb sb b φ (K+2200000000):=fun X q a' n' hh=>by
   refine(Oa X F fb sb b φ K _ φ.l[aA φ.l s] (.slice ap am ac) a' n' (h.keep q) (wR.bh (ae.br (own:=fun _=>False) q) (fun _ _ x=>x)) (hJ.st.num U) hd U x2 x3 (hJ.blk _ eF) U U).mono fun e w' hx=>⟨?_,?_⟩
   ·rw[hx.1,A6 _ _ _ _ U];rfl
   ·exact(FsK.seq (fun k hk=>.inl hk) (ae.br q) (hx.2.mono U)).r
  obtain⟨_,_,c2,_⟩:=h.box.c4;have bW:(aA φ.l s:Int)<(φ.l.length:Int):=U;have Fz:(0:Int)≤(aA φ.l s:Int):=U;have iW:=Hd eP;have HK:=Hd hk;have iO:=Hd dz;clear eP hk dz h hI hJ pF pU x1 x2 x3 x4 wR FN eF gM;have hH:(φ.holds φ.l[aA φ.l s]).length≤φ.l[aA φ.l s].size:=by unfold FsL.holds cont;exact acU _ _
  rw[hc];clear hc;generalize kS:(if a<0∨(φ.l[aA φ.l s].size:Int)<a∨n<0 then(([]:Bytes),(2:Int)) else(((φ.holds φ.l[aA φ.l s]).drop a.toNat).take n.toNat,0))=rs at *
  have xO:=Hd kS;clear kS;generalize φ.holds φ.l[aA φ.l s]=H at *;generalize φ.l[aA φ.l s]=f at *;generalize aA φ.l s=pl at *;obtain⟨fn,fsl,fsz,x⟩:=f;simp only[] at *;go_enter func18,ntmps18;go_wp2_with fail;refine iW.out.mono ?_;rintro e w1 ⟨rfl,q1⟩;have k0:=aj q1 k0;have k1:=aj q1 k1;have k2:=aj q1 k2;have k3:=aj q1 k3;have c2:=aj q1 c2;have Q1:=Hd q1;clear q1;go_upto_region 5 with fail;have qx:Q w1 _:=Q.alloc w1 (.cells #[ah fn,.bool fsl,.int .i64 (fsz:Nat),.slice ap am ac] 56);have bZ:=Blk.new w1 56 #[ah fn,.bool fsl,.int .i64 (fsz:Nat),.slice ap am ac];obtain⟨d0,d1,d2,d3,_⟩:=bZ.c4;have Q2:=Hd (Q1.out.trans qx);generalize w1.alloc (.cells #[ah fn,.bool fsl,.int .i64 (fsz:Nat),.slice ap am ac] 56)=w2 at *;clear k0 k1 k2 k3 c2 qx bZ;by_cases hg:a<0∨(fsz:Int)<a∨n<0
  ·have HG:=Hd hg
   have ZU:=Hd (HK.out _ Q2.out);by_cases g1:a<0
   ·go_wp2_with fail
    go_returns;have kS:=xO.out;rw[Φ HG.out] at kS;rw[←kS];exact⟨rfl,ZU.out⟩
   ·by_cases g2:(fsz:Int)<a
    ·go_wp2_with fail
     go_returns;have kS:=xO.out;rw[Φ HG.out] at kS;rw[←kS];exact⟨rfl,ZU.out⟩
    ·have g3:n<0:=U
     go_wp2_with fail;go_returns;have kS:=xO.out;rw[Φ HG.out] at kS;rw[←kS];exact⟨rfl,ZU.out⟩
  ·have HG:=Hd hg
   have g1:¬a<0:=U;have g2:¬(fsz:Int)<a:=U;have g3:¬n<0:=U;have e1:IntKind.i64.wrap ((fsz:Int)-a)=(fsz:Int)-a:=IntWalk.i64_in _ U;have dz:=iO.out w2 Q2.out a.toNat (min n ((fsz:Int)-a)).toNat U;have e2:((a.toNat:Nat):Int)=a:=U;have e3:(((min n ((fsz:Int)-a)).toNat:Nat):Int)=min n ((fsz:Int)-a):=U;rw[e2,e3] at dz;have ow:=Hd dz;clear dz hg e2 e3;have kH:(H.drop a.toNat).take (min n ((fsz:Int)-a)).toNat=(H.drop a.toNat).take n.toNat:=by
    by_cases qp:n≤(fsz:Int)-a
    ·rw[show min n ((fsz:Int)-a)=n by omega]
    ·rw[NE (by rw[MM];omega),NE (by rw[MM];omega)]
   have Ad:=Hd kH;clear kH hH;go_wp2_with fail;refine ow.out.mono ?_;rintro e w3 ⟨rfl,h3⟩;have H3:=Hd h3;clear h3;go_wp2_with fail;go_returns;have kS:=xO.out;rw[η HG.out] at kS;rw[←kS];exact⟨by rw[←Ad.out];rfl,H3.out⟩
 ·have hz:∃er:Int,(er=4∨er=10)∧φ.di s=er∧(if φ.st.dead then #[Value.int .i64 0,.int .i64 4] else if isF φ.l s then #[Value.int .i64 (aA φ.l s:Nat),.int .i64 0] else #[Value.int .i64 0,.int .i64 10])=#[Value.int .i64 0,.int .i64 er]:=by
   rw[pF];cases h1:φ.st.dead
   ·cases h2:isF φ.l s
    ·exact⟨10,.inr rfl,rfl,rfl⟩
    ·exact absurd ⟨h1,h2⟩ hgo
   ·exact⟨4,.inl rfl,rfl,rfl⟩
  obtain⟨er,he,e1,e2⟩:=hz;have ug:φ.d8 s a n=([],er):=by rw[hc,e1,Φ (by rcases he with rfl|rfl<;>decide)]
  rw[ug];rw[e2] at eP;have iW:=Hd eP;have HK:=Hd hk;clear eP hk hc pF h hI e1 e2 ug hgo;have aU:(er != 0)=true:=by rcases he with rfl|rfl<;>decide
  go_enter func18,ntmps18;go_wp2_with fail;refine iW.out.mono ?_;rintro e w1 ⟨rfl,q1⟩;have Q1:=Hd q1;clear q1;go_wp2_with fail;go_returns;exact⟨rfl,HK.out _ Q1.out⟩
end
section
open Go.RowKit
theorem XC(vs:List Value):∀(l:List ax) (i:Nat) (u:Value),vs.length=l.length→i<l.length→(dH vs l).set (i*4+3) u=dH (vs.set i u) l:=by
 induction vs with
 | nil=>intro l i u h hi;rw[←h] at hi;simp at hi
 | cons a vs ih=>intro l i u h hi;cases l with
  | nil=>simp at hi
  | cons f l=>cases i with
   | zero=>rfl
   | succ i =>
    have:=ih l i u (by simpa using h) (by simpa using hi)
    rw[show(i+1)*4+3=(i*4+3)+1+1+1+1 by omega]
    simp only[dH,abZ,this]
def gv(w:World)(base g cap:Nat)(l:List ax):Prop:=∃vs:List Value,vs.length=l.length∧w.ownsRow base 56 4 (.slice (some ⟨g,0,none⟩) l.length cap) l.length (dH vs l)∧∀(i:Nat) a f,vs[i]?=some a→l[i]?=some f→SlP (fun k=>k≠g) w a f.ext.length 2 (ext f.ext)
section
variable {w w':World} {base g cap:Nat} {l:List ax}
theorem gv.q(h:gv w base g cap l)(q:Q w w'):gv w' base g cap l:=by
 obtain⟨vs,e1,e2,e3⟩:=h;exact⟨vs,e1,ownsRow_below e2 q,fun i a f ha hf=>(e3 i a f ha hf).bh (ae.br (own:=fun _=>False) q) (fun _ _ x=>x)⟩
theorem gv.s(h:gv w base g cap l):eE w (.slice (some ⟨g,0,none⟩) l.length cap) l:=by
 obtain⟨vs,e1,e2,e3⟩:=h;exact⟨vs,e1,Sl.cy e2,fun i a f ha hf=>(e3 i a f ha hf).1⟩
theorem gv.at(h:gv w base g cap l)(i:Nat)(hi:i<l.length):∃av,w.cell? ⟨g,i*4+3,none⟩=some av∧w.frozen? ⟨g,i*4+3,none⟩=false∧Sl w av l[i].ext.length 2 (ext l[i].ext):=by
 obtain⟨vs,e1,e2,e3⟩:=h;obtain⟨_,_,_,x3⟩:=wm vs l i hi e1;exact⟨_,(e2.cellAt (i*4+3) U).trans x3,e2.frozenAt _,(e3 i _ _ (Mp U) (Mp hi)).1⟩
theorem gv.put(h:gv w base g cap l)(q:Q w w')(i:Nat)(hi:i<l.length){u:Value}(hu:w'.ownsRow w.heap.size 120 2 u l[i].ext.length (ext l[i].ext)):gv (w'.setCell ⟨g,i*4+3,none⟩ u) base g cap l:=by
 have pV:g<w.heap.size:=by
  obtain⟨vs,e1,e2,e3⟩:=h;exact(e2.lt g rfl).2
 obtain⟨vs,e1,e2,e3⟩:=h.q q;have aC:=(e2.stored (i*4+3) u).1;rw[XC vs l i u e1 hi] at aC;have t:ae (fun k=>k=g) w' (w'.setCell ⟨g,i*4+3,none⟩ u):=ae.setCell (a:=⟨g,i*4+3,none⟩) (ae.refl (fun k=>k=g) w') (.inl rfl) _
 refine⟨vs.set i u,by rw[SP,e1],aC,fun j a f ha hf=>?_⟩
 rw[abo] at ha;split at ha
 ·rename_i GQ
  subst GQ;rw[Mp hi] at hf;simp only[e1,hi,QQ,N6] at ha hf;subst ha;subst hf;exact((SlP.cy hu).mono (R:=fun k=>k≠g) (fun k hk _=>U) Z).bh t (fun k hk hc=>hk hc)
 ·exact(e3 j a f ha hf).bh t (fun k hk hc=>hk hc)
end
theorem Ex(x:List (Nat×Nat)):∀u∈ext x,u.oneCell'=true:=pj x
end
section
open Go.RowKit
theorem U8(s:Bytes):∀(l:List ax),l.Pairwise (fun a b=>a.name<b.name)→isF l s=true→aA (l.eraseIdx (aA l s)) s=aA l s:=by
 intro l;induction l with
 | nil=>intro _ h;simp[isF,aA] at h
 | cons f l ih =>
  intro hr h;obtain⟨h1,h2⟩:=Tu.1 hr;by_cases hf:f.name<s
  ·have e:aA (f::l) s=aA l s+1:=by rw[aA,Φ hf]
   have hi:isF l s=true:=by
    unfold isF at h ⊢;rw[e,Xs] at h;exact h
   rw[e,List.eraseIdx_cons_succ,aA,Φ hf,ih h2 hi]
  ·have e:aA (f::l) s=0:=by rw[aA,η hf]
   have hn:f.name=s:=by
    unfold isF at h;rw[e] at h;simpa using h
   rw[e,List.eraseIdx_cons_zero];cases l with
   | nil=>rfl
   | cons g l =>
    have hg:=h1 g (Nm ..);rw[aA,η (fun hc=>DR s (mC (hn▸hg) hc))]
theorem Ls(s:Bytes)(l:List ax)(hr:l.Pairwise fun a b=>a.name<b.name):aA (eZ l s) s=aA l s:=by
 unfold eZ;split
 ·exact U8 s l hr (by assumption)
 ·rfl
section
variable {KI:Nat} {φ:FsL} {fr:List (List WrL)} {C:Nat→Bytes}
theorem XD(h:bz KI φ fr C)(i:Nat)(hi:i<φ.l.length)(tn:Bytes)(ho:iM tn=true):cL (ak φ.st.n+12) φ.st.n (jE (eZ (φ.l.eraseIdx i) tn) (φ.l[i].named tn)):=by
 have he:=h.good.ok.erase i;obtain⟨l1,l2,l3,l4⟩:=J5 he tn;have hp:=wh (eZ (φ.l.eraseIdx i) tn) (φ.l[i].named tn);have zA:=mZ hi;have Tw:(fD ((φ.l[i].named tn)::eZ (φ.l.eraseIdx i) tn)).Nodup:=by
  have h1:=(jf zA).nodup_iff.1 h.good.ok.apart;refine h1.sublist ?_;rw[gJ,gJ];refine aea (ZD _) (tH ?_);unfold eZ;split
  ·exact SZ _ _
  ·exact ZD _
 refine cL.hQ (fun f hf=>?_) (EC l1.rise _ l2) hp ?_ Tw
 ·rcases NL.1 hf with rfl|hf
  ·have:=h.good.ok.ok _ (MA hi)
   exact⟨ho,this.size,this.few,this.ext,this.need⟩
  ·exact l1.ok f hf
 ·have h1:=zA.length_eq;have h2:=h.good.ok.few
  have h3:(eZ (φ.l.eraseIdx i) tn).length≤(φ.l.eraseIdx i).length:=by
   unfold eZ;split
   ·exact(SZ _ _).length_le
   ·exact Ω _
  rw[Mu] at h1 ⊢;omega
end
section
variable {P R:Nat→Prop} {w w':World} {base:Nat} {v:Value} {l:List ax}
theorem cA.bh{own:Nat→Prop}(h:cA P w base v l)(t:ae own w w')(h1:∀k,P k→¬own k)(h2:∀g,v.ownBlock=some g→¬own g):cA P w' base v l:=by
 obtain⟨vs,e1,e2,e3⟩:=h;refine⟨vs,e1,⟨e2.1,?_⟩,fun i a f ha hf=>(e3 i a f ha hf).bh t h1⟩
 rcases e2.2 with e|⟨g,cap,cur,rfl,x1,x2,x3⟩
 ·exact .inl e
 ·exact .inr ⟨g,cap,cur,rfl,x1,(t.block g (aJ x2) (h2 g rfl)).trans x2,x3⟩
theorem cA.s(h:cA P w base v l):eE w v l:=by
 obtain⟨vs,e1,e2,e3⟩:=h;exact⟨vs,e1,Sl.cy e2,fun i a f ha hf=>(e3 i a f ha hf).1⟩
theorem cA.file(h:cA P w base v l)(i:Nat)(hi:i<l.length):∃g cap av,v=.slice (some ⟨g,0,none⟩) l.length cap∧SlP P w av l[i].ext.length 2 (ext l[i].ext) ∧
  w.cell? ⟨g,i*4,none⟩=some (ah l[i].name)∧w.cell? ⟨g,i*4+1,none⟩=some (.bool l[i].sl)∧w.cell? ⟨g,i*4+2,none⟩=some (.int .i64 (l[i].size:Nat))∧w.cell? ⟨g,i*4+3,none⟩=some av:=by
 obtain⟨vs,e1,e2,e3⟩:=h;obtain⟨a,cap,rfl,hg⟩:=aY e2;obtain⟨g,rfl⟩:=hg U;obtain⟨x0,x1,x2,x3⟩:=wm vs l i hi e1;exact⟨g,cap,vs[i]' U,rfl,e3 i _ _ (Mp U) (Mp hi),(e2.cellAt (i*4) U).trans x0,(e2.cellAt (i*4+1) U).trans x1,(e2.cellAt (i*4+2) U).trans x2,(e2.cellAt (i*4+3) U).trans x3⟩
end
theorem SlP.strong{P R:Nat→Prop}{w:World}{v:Value}{n size:Nat}{xs:List Value}(h:SlP P w v n size xs)(k:∀g,v.ownBlock=some g→R g):SlP R w v n size xs :=
 ⟨h.1,fun hn b off cap e=>k b (by rw[e];rfl)⟩
theorem oe{w W X w7:World}{F G G7:Nat→Prop}{fb sb b:Nat}{φ:FsL}{K:Nat}{v v7:Value}{base:Nat}{l2:List ax}{f:ax}{av:Value}{KI first:Nat}{fr:List (List WrL)}{C:Nat→Bytes}
  (pV:∀k,own G fb k→k<W.heap.size) (h2:∀k,G k→grow F w W k) (h3:ae (own F fb) w W) (qX:Q W X) (g1:FsG w7 G7 fb sb b φ K v) (g2:∀k,G7 k→grow G X w7 k) (g3:ae (fun k=>own G fb k∨W.heap.size≤k) X w7)
  (hw:cA (Pw G fb W) w7 base v7 l2) (hb:W.heap.size≤base) (bN:base≤X.heap.size) (hv:∀g,v7.ownBlock=some g→g<X.heap.size) (hl:l2.length≤1000) (wR:SlP (Pw G fb W) w7 av f.ext.length 2 (ext f.ext)) (hf:cn (Pw G fb W) w7 v φ.l)
  (hd:cL first φ.st.n (jE l2 f)) (hs:eI KI φ.st fr C) (gM:KI<18446744073709551616) (hp:φ.packed=[]∨φ.packed.length=3072) (hK:K+20≤1000000000000000000) :
  Calls prog 97 #[v7,.int .i64 (aA l2 f.name:Nat),.slice (some ⟨w7.heap.size,0,none⟩) 1 1] (w7.alloc (.cells #[ah f.name,.bool f.sl,.int .i64 (f.size:Nat),av] 56)).drew (fun e w'=>∃v',e=.returned v'∧Hid (cn (fun k=>¬own G7 fb k) w' v' (jE l2 f))∧ae (fun k=>base≤k∧(v7.ownBlock=some k)) w7 w') ∧
  ∀(Y:World) (lv:Value),ae (fun k=>base≤k∧(v7.ownBlock=some k)) w7 Y→cn (fun k=>¬own G7 fb k) Y lv (jE l2 f)→Calls prog 96 #[au fb,lv] Y fun e w'=>e=.returned (.int .i64 (φ.st.dir φ.packed (jE l2 f)).2)∧FsR w w' F fb sb b (φ.wr (jE l2 f)) (K+12)∧ae (own G7 fb) Y w':=by
 have q0:Q w7 (w7.alloc (.cells #[ah f.name,.bool f.sl,.int .i64 (f.size:Nat),av] 56)).drew:=(Q.alloc _ _).trans (Q.drew _);have hsX:=qX.size;have Mj:=g3.size;have h7:∀k,own G7 fb k→own G fb k∨X.heap.size≤k∧k<w7.heap.size:=fun k hk=>by
  rcases hk with hk|hk
  ·exact(g2 k hk).imp .inl id
  ·exact .inl (.inr hk)
 have ael:∀g,v7.ownBlock=some g→¬own G7 fb g:=fun g hg hc=>by
  have h1:=hv g hg;have h2:=(hw.lt g hg).1;rcases h7 g hc with h3|h3
  ·have:=pV g h3;omega
  ·omega
 have ZX:∀k,Pw G fb W k→¬own G7 fb k:=fun k hk hc=>by
  have:=hk.2;rcases h7 k hc with h3|h3
  ·exact hk.1 h3
  ·omega
 have vP:∀k,own G7 fb k→k<w7.heap.size:=g1.fy;refine⟨?_,fun Y lv t lI=>?_⟩
 ·refine(Je (hw.q q0) (fun k hk=>Ψ hk.2 hb) hl (by have:=q0.size;omega) (aA l2 f.name) (Gm _ _) f av (wR.bh (ae.br (own:=fun _=>False) q0) (fun _ _ x=>x)) w7.heap.size ((Blk.new w7 _ _).stays (Q.drew _)) (fun e=>absurd (hw.lt _ e).2 (US _))).mono fun e w' hx=>?_
  obtain⟨v',r1,r2,r3,r4⟩:=hx;refine⟨v',r1,Hd ?_,(ae.br q0).trans r3⟩;obtain⟨vs,e1,e2,e3⟩:=r2;refine⟨vs,e1,(SlP.cy e2).strong (fun g hg hc=>?_),fun i a f ha hf=>(e3 i a f ha hf).mono (fun k hk _=>ZX k hk) Z⟩
  rcases r4 with r4|r4
  ·exact ael g (r4.symm.trans hg) hc
  ·rw[r4] at hg
   have:=vP g hc;have bP:=q0.size;simp only[N6] at hg;omega
 ·have hd7:∀k,own G7 fb k→¬(base≤k∧v7.ownBlock=some k):=fun k hk hc=>ael k hc.2 hk
  have hY:FsG Y G7 fb sb b φ K v:=⟨g1.st.beside t (fun k hk=>hd7 k (.inl hk)),t.blk g1.box (hd7 fb (.inr rfl)),g1.nb,(hf.bh t (fun k hk hc=>by have:=hk.2;have:=hc.1;omega)).mono fun k hk _=>ZX k hk⟩
  refine(Aw Y G7 fb sb b φ K v lv (jE l2 f) hY lI hd hs gM hp hK).mono fun e w' hx=>⟨hx.1,?_,by obtain⟨H,_,_,t⟩:=hx.2;exact t⟩
  have htY:=t.size;have hqs:=qX.size;have h3s:=h3.size;refine FsR.seq (fun k hk=>?_) ⟨t.os.trans (g3.os.trans (qX.os.trans h3.os)),t.tape.trans (g3.tape.trans (qX.tape.trans h3.tape)),t.output.trans (g3.output.trans (qX.output.trans h3.output)),U,fun k hk hn=>?_⟩ hx.2
  ·rcases g2 k hk with h|h
   ·exact(h2 k h).imp id fun h=>⟨h.1,U⟩
   ·exact .inr ⟨U,U⟩
  ·refine(t.block k U (fun hc=>by have:=hc.1;omega)).trans ((g3.block k U (fun hc=>?_)).trans ((qX.block k U).trans (h3.block k hk hn)))
   rcases hc with (hc|hc)|hc
   ·rcases h2 k hc with hc|hc
    ·exact hn (.inl hc)
    ·omega
   ·exact hn (.inr hc)
   ·omega
theorem cn.file{P:Nat→Prop}{w:World}{v:Value}{l:List ax}(h:cn P w v l)(i:Nat)(hi:i<l.length):∃g off cap av,v=.slice (some ⟨g,off,none⟩) l.length cap∧SlP P w av l[i].ext.length 2 (ext l[i].ext)∧P g ∧
  w.cell? ⟨g,off+i*4,none⟩=some (ah l[i].name)∧w.cell? ⟨g,off+i*4+1,none⟩=some (.bool l[i].sl)∧w.cell? ⟨g,off+i*4+2,none⟩=some (.int .i64 (l[i].size:Nat))∧w.cell? ⟨g,off+i*4+3,none⟩=some av:=by
 obtain⟨vs,h1,h2,h3⟩:=h;obtain⟨⟨_,a,cap,rfl,hc⟩,hp⟩:=h2;obtain⟨g,off,rfl,hd⟩:=hc U;obtain⟨e0,e1,e2,e3⟩:=wm vs l i hi h1;exact⟨g,off,cap,vs[i]' U,rfl,h3 i _ _ (Mp U) (Mp hi),hp U g off cap rfl,hd _ _ e0,hd _ _ e1,hd _ _ e2,hd _ _ e3⟩
theorem FsG.off{P own' G7:Nat→Prop}{w7 w8:World}{fb sb b:Nat}{φ:FsL}{K:Nat}{v:Value}(h:FsG w7 G7 fb sb b φ K v)(t:ae own' w7 w8)(hd:∀k,own G7 fb k→¬own' k)(hf:cn P w7 v φ.l)(h1:∀k,P k→¬own' k)(h2:∀k,P k→¬own G7 fb k):FsG w8 G7 fb sb b φ K v :=
 ⟨h.st.beside t (fun k hk=>hd k (.inl hk)),t.blk h.box (hd fb (.inr rfl)),h.nb,(hf.bh t h1).mono fun k hk _=>h2 k hk⟩
end
section
open Go.RowKit
theorem Rc(w W:World)(F:Nat→Prop)(fb sb b:Nat)(φ:FsL)(K:Nat)(v:Value)(i:Nat)(hi:i<φ.l.length)(tn:Bytes){KI first:Nat}{fr:List (List WrL)}{C:Nat→Bytes}(h:FsK w W F fb sb b φ K v)(hl:φ.l.length≤1000)(kS:φ.l.Pairwise fun a b=>a.name<b.name)
  (hx:(jg (φ.l.eraseIdx i) tn).length≤16) (hr:kh KI φ.st fr C (jg (φ.l.eraseIdx i) tn)) (hd:cL first (φ.st.bo (jg (φ.l.eraseIdx i) tn)).1.n (jE (eZ (φ.l.eraseIdx i) tn) (φ.l[i].named tn))) (hs:eI KI (φ.st.bo (jg (φ.l.eraseIdx i) tn)).1 fr C) (gM:KI<18446744073709551616) (hp:φ.packed=[]∨φ.packed.length=3072) (hK:K+60≤1000000000000000000) :
  Calls prog 63 #[.agg #[au fb,.int .i64 (i:Nat),ah tn]] W fun e w'=>e=.returned (.int .i64 ((φ.st.bo (jg (φ.l.eraseIdx i) tn)).1.dir φ.packed (jE (eZ (φ.l.eraseIdx i) tn) (φ.l[i].named tn))).2)∧FsR w w' F fb sb b (FsL.wr { φ with st:=(φ.st.bo (jg (φ.l.eraseIdx i) tn)).1 } (jE (eZ (φ.l.eraseIdx i) tn) (φ.l[i].named tn))) (K+44):=by
 obtain⟨G,hG,h2,h3⟩:=h;obtain⟨wa,dO⟩:∃wa,wa=W.alloc (.cells #[au fb,.int .i64 (i:Nat),ah tn] 126):=⟨_,rfl⟩;have qa:Q W wa:=by rw[dO];exact Q.alloc _ _
 have bZ:Blk wa W.heap.size 126 #[au fb,.int .i64 (i:Nat),ah tn]:=by rw[dO];exact Blk.new W _ _
 have ay:=hG.fy;have pX:¬own G fb W.heap.size:=fun hc=>by have:=ay _ hc;omega
 have Mw:=hG.keep qa;obtain⟨g,off,cap,av,rfl,wR,FN,k0,k1,k2,k3⟩:=(hG.rows.q qa).file i hi;obtain⟨ap,am,ac,rfl⟩:=wR.value;obtain⟨_,_,c2,_⟩:=Mw.box.c4;obtain⟨d0,d1,d2,_⟩:=bZ.c3;have CX:(i:Int)<(φ.l.length:Int):=U;have qL:(0:Int)≤(i:Int):=U;have HG:=Hd hG;have H2:=Hd h2;have H3:=Hd h3;have HAV:=Hd wR;have rW:=Hd FN;have FI:=Hd pX;have HR:=Hd hr;have HD:=Hd hd;have HS:=Hd hs;have xO:=Hd kS;have QA:=Hd qa;have HX:=Hd hx;clear hG h2 h3 wR FN pX hr hd hs kS qa hx Mw ay bZ;go_enter func63,ntmps63;go_wp2_with fail;rw[←dO];clear dO
 (go_region_held3 (fun w'=>w'.cell? ⟨W.heap.size,0,none⟩=some (au fb)∧w'.cell? ⟨W.heap.size,1,none⟩=some (.int .i64 (i:Nat))∧w'.cell? ⟨g,off+i*4,none⟩=some (ah φ.l[i].name)∧w'.cell? ⟨g,off+i*4+1,none⟩=some (.bool φ.l[i].sl)∧w'.cell? ⟨g,off+i*4+2,none⟩=some (.int .i64 (φ.l[i].size:Nat))∧w'.cell? ⟨g,off+i*4+3,none⟩=some (.slice ap am ac)∧w'.cell? ⟨fb,2,none⟩=some (.slice (some ⟨g,off,none⟩) φ.l.length cap))
  (first|exact⟨d0,d1,k0,k1,k2,k3,c2⟩|exact uA (by repeat (first|with_reducible exact Q.refl _|with_reducible apply Qs.dr|with_reducible apply Qs.al)) d0 d1 k0 k1 k2 k3 c2 )
  (first|fail))
 have eO:IntKind.i64.wrap ((i:Int)+1)=(i:Int)+1:=IntWalk.i64_in _ U;have eu:Blk (wa.alloc (.cells #[ah φ.l[i].name,.bool φ.l[i].sl,.int .i64 (φ.l[i].size:Nat),.slice ap am ac] 56)).drew wa.heap.size 56 #[ah φ.l[i].name,.bool φ.l[i].sl,.int .i64 (φ.l[i].size:Nat),.slice ap am ac]:=(Blk.new wa _ _).stays (Q.drew _);have qk:Q wa (wa.alloc (.cells #[ah φ.l[i].name,.bool φ.l[i].sl,.int .i64 (φ.l[i].size:Nat),.slice ap am ac] 56)).drew:=(Q.alloc _ _).trans (Q.drew _);have iT:=eu.set 0 (ah tn);have qy:=Q.setCell qk (a:=⟨wa.heap.size,0,none⟩) (Ω _) (ah tn);obtain⟨b0,b1,b2,b3,f0,_⟩:=eu.c4;clear k0 k1 k2 k3;have y0:=aj qy d0;have y1:=aj qy d1;have y2:=aj qy d2;have yc:=aj qy c2;have hsy:wa.heap.size<(((wa.alloc (.cells #[ah φ.l[i].name,.bool φ.l[i].sl,.int .i64 (φ.l[i].size:Nat),.slice ap am ac] 56)).drew).setCell ⟨wa.heap.size,0,none⟩ (ah tn)).heap.size:=iT.lt;replace d0:=aj qk d0;replace d1:=aj qk d1;replace d2:=aj qk d2;replace c2:=aj qk c2;clear eu qk;generalize (wa.alloc (.cells #[ah φ.l[i].name,.bool φ.l[i].sl,.int .i64 (φ.l[i].size:Nat),.slice ap am ac] 56)).drew=wk at *;go_upto_region 3 with fail;clear b0 b1 b2 b3 f0 d0 d1 d2 c2;generalize wk.setCell ⟨wa.heap.size,0,none⟩ (ah tn)=wy at *;have aen:Blk wy wa.heap.size 56 #[ah tn,.bool φ.l[i].sl,.int .i64 (φ.l[i].size:Nat),.slice ap am ac]:=iT;have hqy:Q W wy:=QA.out.trans qy;have pV:=HG.out.fy;have qp:(φ.l.eraseIdx i).length≤1000:=My (adB ..) hl;have bL:Calls prog 55 #[.slice (some ⟨g,off,none⟩) φ.l.length cap] wy.drew fun e w'=>∃v',e=.returned v'∧Hid (cA (Pw G fb W) w' wy.heap.size v' φ.l)∧Q wy w':=(HG.out.js hl (hqy.trans (Q.drew wy))).mono fun e w' hh=>by
  obtain⟨v',r1,r2,r3⟩:=hh;exact⟨v',r1,Hd (r2.low (Q.drew wy).size),(Q.drew wy).trans r3⟩
 have Cu:∀X v0,Q wy X→cA (Pw G fb W) X wy.heap.size v0 φ.l→Calls prog 127 #[v0,.int .i64 (i:Nat),.int .i64 ((i:Int)+1)] X fun e w'=>∃v',e=.returned v'∧Hid (cA (Pw G fb W) w' wy.heap.size v' (φ.l.eraseIdx i))∧Q wy w':=fun X v0 q hw=>(Dm hw (fun k hk=>Ψ hk.2 hqy.size) hl i hi).mono fun e w' hh=>by
  obtain⟨v',r1,_,r3,r4⟩:=hh;exact⟨v',r1,Hd r3,r4.below q q.size (fun k hk=>(hw.lt k hk).1)⟩
 have eP:∀X v0,cA (Pw G fb W) X wy.heap.size v0 (φ.l.eraseIdx i)→Calls prog 91 #[v0,ah tn] X fun e w'=>e=.returned (.tuple #[.int .i64 (aA (φ.l.eraseIdx i) tn:Nat),.bool (isF (φ.l.eraseIdx i) tn)])∧Q X w':=fun X v0 hw=>J8 v0 _ tn X hw.s U (xO.out.sublist (SZ _ _))
 have p8:=Hd bL;have TM:=Hd Cu;have iW:=Hd eP;have QY:=Hd hqy;have Ic:=Hd aen;have FH:=Hd pV;have qQ:=Hd hsy;have QAY:=Hd qy;clear bL Cu eP hqy iT aen pV qy hsy;have KK:=Hd (Q.refl wy)
 (go_region_held3 (fun w'=>w'.cell? ⟨W.heap.size,0,none⟩=some (au fb)∧w'.cell? ⟨W.heap.size,1,none⟩=some (.int .i64 (i:Nat))∧w'.cell? ⟨fb,2,none⟩=some (.slice (some ⟨g,off,none⟩) φ.l.length cap))
  (first|exact g1|exact⟨y0,y1,yc⟩|exact three (by repeat (first|with_reducible exact KK.out|with_reducible exact Q.refl _|with_reducible apply Qs.dr)) y0 y1 yc)
  (first
   | (go_at_call 55;refine p8.out.mono ?_;rintro e w4 ⟨v1,rfl,F1,s'⟩;have g1:=three s' y0 y1 yc;clear KK;have KK:=Hd s';clear s')
   | (go_at_call 127;refine(TM.out _ v1 KK.out F1.out).mono ?_;rintro e w5 ⟨v2,rfl,F2,s'⟩;have g1:=three s' y0 y1 yc;clear KK;have KK:=Hd s';clear s')))
 replace y2:=aj KK.out y2;have ou:=Hd (Ic.out.stays KK.out);obtain⟨y0',y1',yc'⟩:=g1;go_wp2_with fail;refine(iW.out _ v2 F2.out).mono ?_;rintro e w6 ⟨rfl,q6⟩;have yj:Q W w6:=QY.out.trans (KK.out.trans q6);have ZY:=Hd (F2.out.q q6);have RY:=Hd (ou.out.stays q6);have z0:=aj q6 y0';have aeo:Q wa w6:=QAY.out.trans (KK.out.trans q6);have aep:=HAV.out.bh (ae.br (own:=fun _=>False) aeo) (fun _ _ x=>x)
 have Mx:=HG.out.rows.q yj;have RG:wy.heap.size≤w6.heap.size:=(KK.out.trans q6).size;have rT:¬own G fb W.heap.size∧¬own G fb wa.heap.size:=⟨FI.out,fun hc=>by have:=FH.out _ hc;have:=QA.out.size;omega⟩
 have HA6:=Hd aep;have OV:=Hd Mx;have lG:=Hd yj;clear y0 y1 yc y0' y1' yc' y2 q6 KK F1 iW p8 TM aep Mx aeo yj;cases TN:isF (φ.l.eraseIdx i) tn with
 | false =>
  have e1:(φ.st.bo (jg (φ.l.eraseIdx i) tn)).1=φ.st:=by unfold jg;rw[TN];rfl
  have e2:eZ (φ.l.eraseIdx i) tn=φ.l.eraseIdx i:=by unfold eZ;rw[TN];rfl
  have YP:=oe (w:=w) (W:=W) (X:=w6) (w7:=w6) (F:=F) (G:=G) (G7:=G) (fb:=fb) (sb:=sb) (b:=b) (φ:={ φ with st:=(φ.st.bo (jg (φ.l.eraseIdx i) tn)).1 }) (K:=K+32) (v7:=v2) (base:=wy.heap.size) (l2:=eZ (φ.l.eraseIdx i) tn) (f:=φ.l[i].named tn) (av:=.slice ap am ac) FH.out H2.out H3.out lG.out (by rw[e1];have h9:=HG.out.keep lG.out;exact⟨h9.st.mono (fun _ x=>x) h9.st.lt U,h9.box,h9.nb,h9.files⟩) (fun k hk=>.inl hk) (ae.refl _ _) (by rw[e2];exact ZY.out) QY.out.size RG (fun g hg=>(ZY.out.lt g hg).2) (by rw[e2];exact qp) HA6.out OV.out HD.out HS.out gM hp U
  clear e1 e2;have ZC:=RY;have HN0:=Hd rT.1;have fZ:=Hd rT.2;clear rT;obtain⟨xY,zG⟩:=YP;rw[show(φ.l[i].named tn).name=tn from rfl,Ls tn _ (xO.out.sublist (SZ _ _))] at xY
  have D7:=Hd xY;have fG:=Hd zG;clear xY zG;have oV:=qQ.out;have jm:=QA.out.size;obtain⟨b0,b1,b2,b3,_⟩:=ZC.out.c4;have b0d:=aj ((Q.alloc w6 (.cells #[ah tn,.bool φ.l[i].sl,.int .i64 (φ.l[i].size:Nat),.slice ap am ac] 56)).trans (Q.drew _)) b0;go_wp2_with fail
  (go_region_held3 (fun w'=>w'.cell? ⟨W.heap.size,0,none⟩=some (au fb)∧w'.cell? ⟨wa.heap.size,0,none⟩=some (ah tn)∧w'.cell? ⟨wa.heap.size,1,none⟩=some (.bool φ.l[i].sl)∧w'.cell? ⟨wa.heap.size,2,none⟩=some (.int .i64 (φ.l[i].size:Nat))∧w'.cell? ⟨wa.heap.size,3,none⟩=some (.slice ap am ac))
   (first|exact g9|exact g8|exact⟨z0,b0,b1,b2,b3⟩|exact five (by repeat (first|with_reducible exact Q.refl _|with_reducible apply Qs.dr|with_reducible apply Qs.al)) z0 b0 b1 b2 b3)
   (first
    | (go_at_call 97;refine D7.out.mono ?_;rintro e w8 ⟨v8,rfl,F8,t8⟩;have g8:=And.intro (t8.cell z0 (fun hc=>by have:=hc.1;simp only[] at this;omega)) (And.intro (t8.cell b0 (fun hc=>by have:=hc.1;simp only[] at this;omega)) (And.intro (t8.cell b1 (fun hc=>by have:=hc.1;simp only[] at this;omega)) (And.intro (t8.cell b2 (fun hc=>by have:=hc.1;simp only[] at this;omega)) (t8.cell b3 (fun hc=>by have:=hc.1;simp only[] at this;omega)))));have T8:=Hd t8;clear t8)
    | (go_at_call 96;refine(fG.out _ _ T8.out F8.out).mono ?_;rintro e w9 ⟨rfl,f9,t9⟩;have g9:=And.intro (t9.cell g8.1 HN0.out) (And.intro (t9.cell g8.2.1 fZ.out) (And.intro (t9.cell g8.2.2.1 fZ.out) (And.intro (t9.cell g8.2.2.2.1 fZ.out) (t9.cell g8.2.2.2.2 fZ.out))));have F9:=Hd (f9.mono (show K+32+12≤K+44 by omega));clear t9 f9)))
  all_goals
   go_wp2_with fail;go_ret;exact⟨rfl,F9.out⟩
 | true =>
  obtain⟨oq,Ae⟩:=zo TN;have e1:jg (φ.l.eraseIdx i) tn=(φ.l.eraseIdx i)[aA (φ.l.eraseIdx i) tn].ext:=by unfold jg;rw[TN,Φ rfl,Mp oq];rfl
  have e2:eZ (φ.l.eraseIdx i) tn=(φ.l.eraseIdx i).eraseIdx (aA (φ.l.eraseIdx i) tn):=by unfold eZ;rw[TN,Φ rfl]
  clear Ae;obtain⟨gr,cr,ar,rfl,har,m0,m1,m2,m3⟩:=ZY.out.file _ oq;obtain⟨pr,nr,qr,rfl⟩:=har.value;have oW:=ZY.out.lt gr rfl;have aeu:¬own G fb gr:=fun hc=>by have:=FH.out _ hc;have:=QY.out.size;omega
  have V9:∀k,Pw G fb W k→¬own G fb k:=fun k hk=>hk.1
  have vw:Calls prog 128 #[au fb,oN (φ.l.eraseIdx i)[aA (φ.l.eraseIdx i) tn] (.slice pr nr qr)] w6.drew fun e w'=>e=.returned (.int .i64 0)∧FsK w6 w' G fb sb b { φ with st:=(φ.st.bo (jg (φ.l.eraseIdx i) tn)).1 } (K+32) (.slice (some ⟨g,off,none⟩) φ.l.length cap):=by
   have Jq:=HX.out;have Zk:=HR.out;rw[e1] at Jq Zk ⊢;refine(Gv w6.drew G fb sb b φ K _ _ _ (HG.out.keep (lG.out.trans (Q.drew _))) ((har.bh (ae.br (own:=fun _=>False) (Q.drew w6)) (fun _ _ x=>x)).mono (fun k hk _=>V9 k hk) Z) Jq Zk gM U).mono fun e w' hh=>⟨hh.1,FsK.seq (fun k hk=>.inl hk) (ae.br (Q.drew w6)) hh.2⟩
  have FK:=Hd vw;have M7:=Hd aeu;have HPG:=Hd V9;have zK:=Hd rT;have E1:=Hd e1;have E2:=Hd e2;have bq:(aA (φ.l.eraseIdx i) tn:Int)<((φ.l.eraseIdx i).length:Int):=U;have lT:(0:Int)≤(aA (φ.l.eraseIdx i) tn:Int):=U;have hkw:IntKind.i64.wrap ((aA (φ.l.eraseIdx i) tn:Int)+1)=(aA (φ.l.eraseIdx i) tn:Int)+1:=IntWalk.i64_in _ U;clear vw aeu V9 rT e1 e2 har;unfold oN at FK;go_wp2_with fail
  (go_region_held3 (fun w'=>w'.cell? ⟨W.heap.size,0,none⟩=some (au fb)∧w'.cell? ⟨gr,aA (φ.l.eraseIdx i) tn*4,none⟩=some (ah (φ.l.eraseIdx i)[aA (φ.l.eraseIdx i) tn].name)∧w'.cell? ⟨gr,aA (φ.l.eraseIdx i) tn*4+1,none⟩=some (.bool (φ.l.eraseIdx i)[aA (φ.l.eraseIdx i) tn].sl)∧w'.cell? ⟨gr,aA (φ.l.eraseIdx i) tn*4+2,none⟩=some (.int .i64 ((φ.l.eraseIdx i)[aA (φ.l.eraseIdx i) tn].size:Nat))∧w'.cell? ⟨gr,aA (φ.l.eraseIdx i) tn*4+3,none⟩=some (.slice pr nr qr))
   (first|exact g7|exact⟨z0,m0,m1,m2,m3⟩)
   (first
    | (go_at_call 128;refine FK.out.mono ?_;rintro e w7 ⟨rfl,h7⟩;have t7:=h7.t;have g7:=And.intro (t7.cell z0 zK.out.1) (And.intro (t7.cell m0 M7.out) (And.intro (t7.cell m1 M7.out) (And.intro (t7.cell m2 M7.out) (t7.cell m3 M7.out))));have H7:=Hd h7;have T7:=Hd t7;clear h7 t7)))
  obtain⟨z7,_⟩:=g7;obtain⟨G7,x1,x2,x3⟩:=H7.out;have hW6:W.heap.size≤w6.heap.size:=lG.out.size;have hAW:W.heap.size≤wa.heap.size:=QA.out.size;have hAY:=qQ.out;have h7:∀k,own G7 fb k→own G fb k∨w6.heap.size≤k∧k<w7.heap.size:=fun k hk=>by
   rcases hk with hk|hk
   ·exact(x2 k hk).imp .inl id
   ·exact .inl (.inr hk)
  have ZX:∀k,Pw G fb W k→¬own G7 fb k:=fun k hk hc=>by
   have:=hk.2;rcases h7 k hc with h|h
   ·exact hk.1 h
   ·omega
  have uh:¬own G7 fb gr:=fun hc=>by
   rcases h7 gr hc with h|h
   ·exact M7.out h
   ·omega
  have xQ:¬own G7 fb W.heap.size:=fun hc=>by
   rcases h7 _ hc with h|h
   ·exact zK.out.1 h
   ·omega
  have qM:¬own G7 fb wa.heap.size:=fun hc=>by
   rcases h7 _ hc with h|h
   ·exact zK.out.2 h
   ·omega
  have hF7:=ZY.out.bh T7.out (fun k hk=>hk.1) (fun g hg=>by
   have e:gr=g:=by simpa[Value.ownBlock] using hg
   rw[←e];exact M7.out)
  have aev:=Dm hF7 (fun k hk=>Ψ hk.2 QY.out.size) qp _ oq
  have hA7:=HA6.out.bh T7.out (fun k hk=>hk.1)
  have hR7:=OV.out.bh T7.out (fun k hk=>hk.1)
  have hB7:=T7.out.blk RY.out zK.out.2;have Yu:Calls prog 127 #[.slice (some ⟨gr,0,none⟩) (φ.l.eraseIdx i).length cr,.int .i64 (aA (φ.l.eraseIdx i) tn:Nat),.int .i64 ((aA (φ.l.eraseIdx i) tn:Int)+1)] w7 fun e w8=>∃v8,e=.returned v8∧v8.ownBlock=some gr∧Hid (cA (Pw G fb W) w8 wy.heap.size v8 ((φ.l.eraseIdx i).eraseIdx (aA (φ.l.eraseIdx i) tn)))∧Hid (ae (fun k=>gr=k) w7 w8):=aev.mono fun e w8 hh=>by
   obtain⟨v8,r1,r2,r3,r4⟩:=hh;exact⟨v8,r1,r2,Hd r3,Hd (r4.mono fun k hk=>by simpa[Value.ownBlock] using hk)⟩
  have aiM:=Hd Yu;have HA7:=Hd hA7;have OW:=Hd hR7;have Ju:=Hd hB7;have X1:=Hd x1;have X2:=Hd x2;have HP7:=Hd ZX;have HG7:=Hd uh;have HN0:=Hd xQ;have fZ:=Hd qM;have HH7:=Hd h7;clear Yu hA7 hR7 hB7 x1 x2 x3 ZX uh xQ qM aev hF7 h7;go_wp2_with fail;refine aiM.out.mono ?_;rintro e w8 ⟨v8,rfl,hob,F8',T8'⟩;have tt:ae (fun k=>gr=k) w7 w8:=T8'.out
  have z0:=tt.cell z7 (fun hc=>by have h9:gr=W.heap.size:=hc;omega)
  have hB8:=tt.blk Ju.out (fun hc=>by have h9:gr=wa.heap.size:=hc;omega)
  have hx8:=FsG.off X1.out tt (fun k hk hc=>HG7.out (by rw[show gr=k from hc];exact hk)) OW.out (fun k hk hc=>by have h9:gr=k:=hc;have:=hk.2;omega) HP7.out
  have hA8:=HA7.out.bh tt (fun k hk hc=>by have h9:gr=k:=hc;have:=hk.2;omega)
  have hR8:=OW.out.bh tt (fun k hk hc=>by have h9:gr=k:=hc;have:=hk.2;omega)
  have amO:=tt.size;have aiN:(eZ (φ.l.eraseIdx i) tn).length≤1000:=by rw[E2.out];exact My (adB ..) qp
  have YP:=oe (w:=w) (W:=W) (X:=w6) (w7:=w8) (F:=F) (G:=G) (G7:=G7) (fb:=fb) (sb:=sb) (b:=b) (φ:={ φ with st:=(φ.st.bo (jg (φ.l.eraseIdx i) tn)).1 }) (K:=K+32) (v7:=v8) (base:=wy.heap.size) (l2:=eZ (φ.l.eraseIdx i) tn) (f:=φ.l[i].named tn) (av:=.slice ap am ac) FH.out H2.out H3.out lG.out hx8 (fun k hk=>(X2.out k hk).imp id fun hk=>⟨hk.1,U⟩)
   ⟨tt.os.trans T7.out.os,tt.tape.trans T7.out.tape,tt.output.trans T7.out.output,by have:=T7.out.size;omega,fun k hk hn=>(tt.block k (by have:=T7.out.size;omega) (fun hc=>hn (.inr (by have h9:gr=k:=hc;omega)))).trans (T7.out.block k hk (fun hc=>hn (.inl hc)))⟩
   (by rw[E2.out];exact F8'.out) QY.out.size RG (fun g' Ph=>by rw[hob] at Ph;simp only[N6] at Ph;omega) aiN hA8 hR8 HD.out HS.out gM hp U
  have ZC:=Hd hB8;clear hx8 hA8 hR8 hB8 tt;obtain⟨xY,zG⟩:=YP;rw[show(φ.l[i].named tn).name=tn from rfl,Ls tn _ (xO.out.sublist (SZ _ _))] at xY
  have D7:=Hd xY;have fG:=Hd zG;clear xY zG;obtain⟨b0,b1,b2,b3,_⟩:=ZC.out.c4;have b0d:=aj ((Q.alloc w8 (.cells #[ah tn,.bool φ.l[i].sl,.int .i64 (φ.l[i].size:Nat),.slice ap am ac] 56)).trans (Q.drew _)) b0;go_wp2_with fail
  (go_region_held3 (fun w'=>w'.cell? ⟨W.heap.size,0,none⟩=some (au fb)∧w'.cell? ⟨wa.heap.size,0,none⟩=some (ah tn)∧w'.cell? ⟨wa.heap.size,1,none⟩=some (.bool φ.l[i].sl)∧w'.cell? ⟨wa.heap.size,2,none⟩=some (.int .i64 (φ.l[i].size:Nat))∧w'.cell? ⟨wa.heap.size,3,none⟩=some (.slice ap am ac))
   (first|exact g9|exact g8|exact⟨z0,b0,b1,b2,b3⟩|exact five (by repeat (first|with_reducible exact Q.refl _|with_reducible apply Qs.dr|with_reducible apply Qs.al)) z0 b0 b1 b2 b3)
   (first
    | (go_at_call 97;refine D7.out.mono ?_;rintro e w8 ⟨v8,rfl,F8,t8⟩;have g8:=And.intro (t8.cell z0 (fun hc=>by have:=hc.1;simp only[] at this;omega)) (And.intro (t8.cell b0 (fun hc=>by have:=hc.1;simp only[] at this;omega)) (And.intro (t8.cell b1 (fun hc=>by have:=hc.1;simp only[] at this;omega)) (And.intro (t8.cell b2 (fun hc=>by have:=hc.1;simp only[] at this;omega)) (t8.cell b3 (fun hc=>by have:=hc.1;simp only[] at this;omega)))));have T8:=Hd t8;clear t8)
    | (go_at_call 96;refine(fG.out _ _ T8.out F8.out).mono ?_;rintro e w9 ⟨rfl,f9,t9⟩;have g9:=And.intro (t9.cell g8.1 HN0.out) (And.intro (t9.cell g8.2.1 fZ.out) (And.intro (t9.cell g8.2.2.1 fZ.out) (And.intro (t9.cell g8.2.2.2.1 fZ.out) (t9.cell g8.2.2.2.2 fZ.out))));have F9:=Hd (f9.mono (show K+32+12≤K+44 by omega));clear t9 f9)))
  all_goals
   go_wp2_with fail;go_ret;exact⟨rfl,F9.out⟩
end
section
open Go.RowKit
section
variable {KI:Nat} {φ:FsL} {fr:List (List WrL)} {C:Nat→Bytes}
theorem bz.Ks(h:bz KI φ fr C)(i:Nat)(tn:Bytes):kh KI φ.st.begin.1 fr C (jg (φ.l.eraseIdx i) tn)∧(jg (φ.l.eraseIdx i) tn).length≤16∧eI KI (φ.st.begin.1.bo (jg (φ.l.eraseIdx i) tn)).1 fr C∧(φ.st.begin.1.bo (jg (φ.l.eraseIdx i) tn)).2=0∧(φ.st.begin.1.bo (jg (φ.l.eraseIdx i) tn)).1.n=φ.st.n:=by
 cases hx:isF (φ.l.eraseIdx i) tn with
 | false =>
  have e:jg (φ.l.eraseIdx i) tn=[]:=by unfold jg;rw[hx];rfl
  obtain⟨ht,h0,h1⟩:=h.start;rw[e];exact⟨⟨ht.st,ht.op,by unfold fO;rw[h0];simp,κ,by simp[aT],by simp[aT]⟩,κ,h.GC,rfl,fq ht.j⟩
 | true =>
  obtain⟨hk,_⟩:=zo hx;have e:jg (φ.l.eraseIdx i) tn=(φ.l.eraseIdx i)[aA (φ.l.eraseIdx i) tn].ext:=by unfold jg;rw[hx,Φ rfl,Mp hk];rfl
  have hm:(φ.l.eraseIdx i)[aA (φ.l.eraseIdx i) tn]∈φ.l:=UT (MA hk);rw[e];obtain⟨a,b,c⟩:=h.sA _ hm;exact⟨h.Lw _ hm,(h.good.ok.ok _ hm).few,a,b,c⟩
end
theorem Ji(w:World)(F:Nat→Prop)(fb sb b:Nat)(φ:FsL)(K:Nat)(v:Value)(s tn:Bytes)(h:FsG w F fb sb b φ K v)(hI:FOk φ)(hK:K+200≤1000000000000000000)(ht:tn.length≤1000000):
  Calls prog 28 #[au fb,ah s,ah tn] w fun e w'=>e=.returned (.int .i64 (φ.rename s tn).2)∧FsR w w' F fb sb b (φ.rename s tn).1 (K+100):=by
 have eP:=wB s h hI.find;have qO:=fun W=>EH tn W U
 have hk:∀W,Q w W→FsR w W F fb sb b φ (K+100):=fun W q=>(((FsK.of h).q q).mono U).r
 have hc:φ.rename s tn=if φ.di s≠0 then(φ,φ.di s) else if iM tn=false then(φ,12) else if s=tn then(φ,0) else φ.cx (r9 φ (aA φ.l s) (φ.at9 s) tn):=rfl
 have pF:φ.di s=if φ.st.dead then 4 else if isF φ.l s then 0 else 10:=rfl
 have jV:φ.st.dead=false→isF φ.l s=true→iM tn=true→∀W,Q w W→Calls prog 44 #[au fb,.func (.func 63) #[.agg #[au fb,.int .i64 (aA φ.l s:Nat),ah tn]] #[]] W fun e w'=>e=.returned (.int .i64 (φ.cx (r9 φ (aA φ.l s) (φ.at9 s) tn)).2)∧FsR w w' F fb sb b (φ.cx (r9 φ (aA φ.l s) (φ.at9 s) tn)).1 (K+100):=fun h1 h2 h3 W q=>by
  rcases hI with hd|⟨_,KI,fr,C,hI,gM⟩
  ·rw[h1] at hd;cases hd
  ·have hlen:=hI.len
   obtain⟨hp,_⟩:=zo h2;rw[DV φ s hp];obtain⟨hr,hx,hs,hz,hn⟩:=hI.Ks (aA φ.l s) tn;refine(Dn W F fb sb b φ K v (r9 φ (aA φ.l s) φ.l[aA φ.l s] tn) _ _ (φ.st.begin.1.bo (jg (φ.l.eraseIdx (aA φ.l s)) tn)).1 (jE (eZ (φ.l.eraseIdx (aA φ.l s)) tn) (φ.l[aA φ.l s].named tn)) (h.keep q) gM hs (enters_of func63 (by kernel_rfl) rfl) (by unfold r9;rw[η (by simpa using hz)]) (fun X hX=>?_)).mono fun e w' hx=>⟨hx.1,FsR.seq (fun k hk=>.inl hk) (ae.br q) hx.2⟩
   exact(Rc W X F fb sb b { φ with st:=φ.st.begin.1 } K v (aA φ.l s) hp tn hX (My hlen Z) hI.rise hx (first:=ak φ.st.n+12) hr (by rw[hn];exact XD hI _ hp tn h3) hs U (.inr hI.eK) U).mono fun e w' hx=>⟨hx.1,hx.2.mono U⟩
 rw[hc,pF];have iW:=Hd eP;have HK:=Hd hk;have xP:=Hd jV;have JI:=Hd qO;clear eP hk hc jV h hI pF qO;generalize hD:φ.cx (r9 φ (aA φ.l s) (φ.at9 s) tn)=D at *;clear hD;generalize φ.st.dead=dd at *;generalize isF φ.l s=isf at *;generalize iM tn=ok at *;generalize aA φ.l s=pl at *;go_enter func28,ntmps28;go_wp2_with fail;refine iW.out.mono ?_;rintro e w1 ⟨rfl,q1⟩;have Q1:=Hd q1;clear q1;cases dd
 ·cases isf
  ·simp only[N0,PR,QQ]
   go_wp2_with fail;go_ret;exact⟨rfl,HK.out _ Q1.out⟩
  ·simp only[N0,PR,QQ]
   go_wp2_with fail;refine(JI.out _).mono ?_;rintro e w2 ⟨rfl,q2⟩;have Q2:=Hd (Q1.out.trans q2);clear q2;cases ok
   ·simp only[N0,PR,QQ]
    go_wp2_with fail;go_ret;exact⟨rfl,HK.out _ Q2.out⟩
   ·have jV:=xP.out (by first|trivial|rfl) (by first|trivial|rfl) (by first|trivial|rfl) _ Q2.out
    have HD:=Hd jV;clear jV;by_cases aC:s=tn
    ·have hb:(s==tn)=true:=by simpa using aC
     have HS:=Hd aC;clear aC;go_wp2_with fail;go_ret;simp only[N0,XS,PR,QQ,HS.out,ne_eq,not_true_eq_false];exact⟨rfl,HK.out _ Q2.out⟩
    ·have hb:(s==tn)=false:=by simpa using aC
     have HS:=Hd aC;clear aC;go_wp2_with fail;refine HD.out.mono ?_;rintro e w3 ⟨rfl,h3⟩;have H3:=Hd h3;clear h3;go_wp2_with fail;go_ret;simp only[N0,XS,PR,QQ,η HS.out,ne_eq,not_true_eq_false];exact⟨rfl,H3.out⟩
 ·simp only[QQ]
  go_wp2_with fail;go_ret;exact⟨rfl,HK.out _ Q1.out⟩
end
section
open Go.RowKit
theorem Hj(first n:Nat):cL first n []:=⟨MD _,List.Pairwise.nil,fun f hf=>by simp at hf,acY⟩
theorem U9(w W:World)(F:Nat→Prop)(fb sb b:Nat)(φ:FsL)(K:Nat)(v:Value){KI:Nat}{fr:List (List WrL)}{C:Nat→Bytes}(h:FsK w W F fb sb b φ K v)(hn:iL φ.st)(jy:(φ.st.alloc 12).2.2=0)(hs:eI KI (φ.st.alloc 12).1 fr C)(gM:KI<18446744073709551616)(hp:φ.packed=[]∨φ.packed.length=3072)(hK:K+40≤1000000000000000000):
  Calls prog 153 #[au fb] W fun e w'=>e=.returned (.int .i64 ((φ.st.alloc 12).1.dir φ.packed []).2)∧FsR w w' F fb sb b (FsL.wr { φ with st:=(φ.st.alloc 12).1 } []) (K+14):=by
 have Bp:Calls prog 185 #[au sb,.int .i64 12] W fun e w'=>e=.returned (.tuple #[.int .i64 (φ.st.alloc 12).2.1,.int .i64 0])∧FsK w w' F fb sb b { φ with st:=(φ.st.alloc 12).1 } (K+2) v:=h.call (fun G hg=>(K8 W G sb b φ.st K 12 hg hn U).mono fun e w' hx=>⟨by rw[←jy];exact hx.1,hx.2⟩)
 have jB:∀X,FsK w X F fb sb b { φ with st:=(φ.st.alloc 12).1 } (K+2) v→Calls prog 96 #[au fb,.slice none 0 0] X fun e w'=>e=.returned (.int .i64 ((φ.st.alloc 12).1.dir φ.packed []).2)∧FsR w w' F fb sb b (FsL.wr { φ with st:=(φ.st.alloc 12).1 } []) (K+14):=fun X q=>by
  obtain⟨G,g1,g2,g3⟩:=q;exact(Aw X G fb sb b { φ with st:=(φ.st.alloc 12).1 } (K+2) v (.slice none 0 0) [] (first:=0) g1 (cn.nil _ _ 0) (Hj _ _) hs gM hp U).mono fun e w' hx=>⟨hx.1,FsR.seq g2 g3 hx.2⟩
 obtain⟨c0,_⟩:=h.cells;have VY:=Hd Bp;have vC:=Hd jB;clear Bp jB h hn jy hs;go_enter func153,ntmps153;go_wp2_with fail;refine VY.out.mono ?_;rintro e w1 ⟨rfl,h1⟩;have hw:=vC.out w1 h1;have HW:=Hd hw;clear h1 hw;go_wp2_with fail;refine HW.out.mono ?_;rintro e w2 ⟨rfl,h2⟩;have H2:=Hd h2;clear h2;go_wp2_with fail;go_ret;exact⟨rfl,H2.out⟩
theorem FsR.dev{w w':World}{F:Nat→Prop}{fb sb b:Nat}{φ:FsL}{K:Nat}(h:FsR w w' F fb sb b φ K):∃G:Nat→Prop,cE w' G b φ.st.j.d∧(∀k,G k→grow F w w' k)∧ae (own F fb) w w':=by
 obtain⟨G,⟨v,h1⟩,h2,h3⟩:=h;obtain⟨FJ,FC,p,cb,tb,most,clock,ms,mb,m,ti,hg,hF,_⟩:=h1.st;exact⟨FJ,hg.jr.dev,fun k hk=>h2 k (hF k (.inl hk)),h3⟩
theorem FsG.new{w:World}{F:Nat→Prop}{sb b:Nat}{σ:StL}{K:Nat}(h:cg w F sb b σ K):FsG (w.alloc (.cells #[au sb,au b,.slice none 0 0,ah []] 90)) F w.heap.size sb b ⟨σ,[],[]⟩ K (.slice none 0 0) :=
 ⟨h.keep (Q.alloc _ _),Blk.new w _ _,fun hc=>by have:=h.lt _ hc;omega,cn.nil _ _ 0⟩
theorem Va(w:World)(F:Nat→Prop)(b n:Nat)(h:cE w F b (af.new n))(hF:∀k,F k→k<w.heap.size)(h1:128≤n)(h2:n≤4096):
  Calls prog 78 #[au b] w fun e w'=>e=.returned (.int .i64 0)∧(∃G:Nat→Prop,cE w' G b (fE n).st.j.d∧∀k,G k→grow F w w' k)∧ae F w w':=by
 obtain⟨hz,L6,hi,kr,_,vk⟩:=BO n h1 h2;obtain⟨_,hf,hl,bQ,_,_,_,bW⟩:=Dg n h1 h2;obtain⟨r1,r2,r3,r4,⟨fr,C,r5⟩,r6,r7,σ2,r8⟩:=MS n h1 h2;obtain⟨b0,ht,h0,kF⟩:=yG hi rfl;have uf:(bf n).begin.1.n=n:=(fq ht.j).trans kr;have ny:fO (bf n).begin.1:=by unfold fO;rw[h0];simp
 have D6:=UU w F b n h hF h1 h2;have fB:=fun (W:World) (F:Nat→Prop) (h:cE W F b (fH (af.new n)).1) (hF:∀k,F k→k<W.heap.size)=>QH W F b (fH (af.new n)).1 64 h hF bQ (fun _=>U) U L6
 have jV:∀(W:World) (G:Nat→Prop) (fb sb:Nat),FsG W G fb sb b (φ0 n) 0 (.slice none 0 0)→Calls prog 44 #[au fb,.func (.func 153) #[au fb] #[]] W fun e w'=>e=.returned (.int .i64 0)∧FsR W w' G fb sb b (fE n) 100:=fun W G fb sb hg=>by
  have lK:ak n+12≤n:=by unfold ak aD;omega
  have lS:fK (bf n).begin.1.ai 12 (bf n).begin.1.n=some (ak n):=by
   rw[kF,vk,uf];exact Ce _ _ _ _ Z lK (fun i hi=>by rw[tJ n h1 h2];exact NO hi) (fun i hi _=>by rw[tJ n h1 h2];exact Nx U)
  have jy:=AY ht.st ht.op ny 12 Z;rw[lS] at jy;obtain⟨a1,a2,a3,a4⟩:=jy;obtain⟨t0,t1,t2,t3,t4,t5⟩:=yF ht.st ht.op ny (ak n) 12 true a2 a3;have tX:((bf n).begin.1.bh (ak n) 12 true).1.n=n:=(fq t4).trans uf;have GK:∀i,i<12→bit ((bf n).begin.1.bh (ak n) 12 true).1.ai (ak n+i)=true:=fun i hi=>by
   rw[t1,Φ U]
  have a1':(bf n).begin.1.alloc 12=(((bf n).begin.1.bh (ak n) 12 true).1,(ak n:Int),0):=a1;have hs:eI 5 ((bf n).begin.1.alloc 12).1 [] (bT (fun _=>ag) (bE n)):=by
   rw[a1'];exact⟨t2,t3,My (qY t2 t5) Z,by rw[tX];exact lK,fun i hi=>by rw[tX];exact GK i hi⟩
  have aW:((bf n).begin.1.alloc 12).2.2=0:=by rw[a1']
  refine(Dn W G fb sb b (φ0 n) 0 _ (xw (φ0 n)) _ _ ((bf n).begin.1.alloc 12).1 [] hg (KI:=5) Z hs (enters_of func153 (by kernel_rfl) rfl) (by show xw (φ0 n) (bf n).begin.1=_;unfold xw;rw[η (by rw[aW];decide)]) (fun X hX=>?_)).mono fun e w' hx=>⟨by rw[←r1];exact hx.1,hx.2⟩
  exact(U9 W X G fb sb b { (φ0 n) with st:=(bf n).begin.1 } 0 _ hX (ce.num (K:=5) ht.st Z) aW hs Z (.inl rfl) Z).mono fun e w' hx=>⟨hx.1,hx.2.mono Z⟩
 have HF:=Hd D6;have HO:=Hd fB;have xP:=Hd jV;clear D6 fB jV hz L6 hi kr vk hf hl bQ bW r1 r2 r3 r4 r5 r6 r7 r8 b0 ht h0 kF uf ny h;have iI:=Hd hF;clear hF;go_enter func78,ntmps78;go_wp2_with fail;refine HF.out.mono ?_;rintro e w1 ⟨rfl,Bu,t1⟩;have ho:=HO.out w1 _ Bu (fun k hk=>hk.elim (fun hk=>Ψ (iI.out k hk) t1.size) (fun hk=>hk.2))
 have Ht:=Hd ho;have T1:=Hd t1;clear ho Bu t1;go_wp2_with fail;refine Ht.out.mono ?_;rintro e w2 ⟨sb,rfl,zW,t2⟩;have lW:=xP.out _ _ _ _ (FsG.new zW);have HDD:=Hd lW;have T2:=Hd t2;have H2:=Hd zW;clear lW t2 zW;go_wp2_with fail;refine HDD.out.mono ?_;rintro e w3 ⟨rfl,h3⟩;have H3:=Hd h3;clear h3;go_wp2_with fail;go_ret;refine⟨rfl,?_⟩;obtain⟨G,g1,g2,g3⟩:=H3.out.dev;have s1:=T1.out.size;have s2:=T2.out.size;have s3:=g3.size;have sa:(w2.alloc (.cells #[au sb,au b,.slice none 0 0,ah []] 90)).heap.size=w2.heap.size+1:=World.size_alloc ..;refine⟨⟨G,g1,fun k hk=>?_⟩,?_⟩
 ·rcases g2 k hk with (((hk|hk)|hk))|hk
  ·exact .inl hk
  ·exact .inr ⟨hk.1,U⟩
  ·exact .inr ⟨U,U⟩
  ·exact .inr ⟨U,hk.2⟩
 ·refine⟨g3.os.trans (T2.out.os.trans T1.out.os),g3.tape.trans (T2.out.tape.trans T1.out.tape),g3.output.trans (T2.out.output.trans T1.out.output),U,fun k hk hn=>?_⟩
  refine(g3.block k U (fun hc=>?_)).trans (((Q.alloc w2 _).block k U).trans ((T2.out.block k U (fun hc=>?_)).trans (T1.out.block k hk hn)))
  ·rcases hc with ((hc|hc)|hc)|hc
   ·exact hn hc
   ·omega
   ·omega
   ·omega
  ·rcases hc with hc|hc
   ·exact hn hc
   ·omega
abbrev inE(e u:Nat×Nat):Bool:=decide (u.1≤e.1∧e.1+e.2≤u.1+u.2)
theorem XE(e u:Nat×Nat)(B:Nat)(w:World)(hb:Blk w B 120 #[.int .i64 (e.1:Nat),.int .i64 (e.2:Nat)])(he:e.1+e.2≤1000000)(hu:u.1+u.2≤1000000):
  Calls prog 61 #[.agg #[.int .i64 (u.1:Nat),.int .i64 (u.2:Nat)],.pointer (some ⟨B,0,none⟩)] w fun x w'=>x=.returned (.bool (inE e u))∧Q w w':=by
 obtain⟨e1,e2⟩:=e;obtain⟨u1,u2⟩:=u;simp only[] at *;have qa:=Q.alloc w (.cells #[.int .i64 (u1:Nat),.int .i64 (u2:Nat)] 120);have bN:=hb.stays qa;have hx:=Blk.new w 120 #[.int .i64 (u1:Nat),.int .i64 (u2:Nat)];obtain⟨c0,c1,_⟩:=bN.c2;obtain⟨d0,d1,_⟩:=hx.c2;have w1:IntKind.i64.wrap ((e1:Int)+(e2:Int))=(e1:Int)+(e2:Int):=IntWalk.i64_in _ U;have w2:IntKind.i64.wrap ((u1:Int)+(u2:Int))=(u1:Int)+(u2:Int):=IntWalk.i64_in _ U;have QA:=Hd qa;clear qa bN hx hb;by_cases h1:u1≤e1
 ·have g1:(u1:Int)≤(e1:Int):=U
  by_cases h2:e1+e2≤u1+u2
  ·have g2:(e1:Int)+(e2:Int)≤(u1:Int)+(u2:Int):=U
   have hr:inE (e1,e2) (u1,u2)=true:=NO ⟨h1,h2⟩;rw[hr];clear hr;go_enter func61,ntmps61;go_wp2_with fail;go_ret;exact⟨rfl,QA.out⟩
  ·have g2:¬(e1:Int)+(e2:Int)≤(u1:Int)+(u2:Int):=U
   have hr:inE (e1,e2) (u1,u2)=false:=Nx (fun h=>h2 h.2)
   rw[hr];clear hr;go_enter func61,ntmps61;go_wp2_with fail;go_ret;exact⟨rfl,QA.out⟩
 ·have g1:¬(u1:Int)≤(e1:Int):=U
  have hr:inE (e1,e2) (u1,u2)=false:=Nx (fun h=>h1 h.1)
  rw[hr];clear hr;go_enter func61,ntmps61;go_wp2_with fail;go_ret;exact⟨rfl,QA.out⟩
theorem XF(e:Nat×Nat)(B:Nat)(v:Value)(us:List (Nat×Nat))(w:World)(h:Sl w v us.length 2 (ext us))(hb:Blk w B 120 #[.int .i64 (e.1:Nat),.int .i64 (e.2:Nat)])(he:e.1+e.2≤1000000)(hu:∀u∈us,u.1+u.2≤1000000)(hl:us.length≤100000)(hx:∃u∈us,inE e u=true):
  Calls prog 126 #[v,.func (.func 61) #[] #[.pointer (some ⟨B,0,none⟩)]] w fun x w'=>(∃z:Nat,x=.returned (.int .i64 (z:Nat))∧z≤100000)∧Q w w':=by
 obtain⟨a,cap,rfl,hc⟩:=jS h;have bL:=fun (k:Nat) (hk:k<us.length) (W:World) (q:Q w W)=>XE e us[k] B W (hb.stays q) he (hu _ (MA hk))
 have hend:(∀k (hk:k<us.length),inE e us[k]=false)→False:=fun hn=>by
  obtain⟨u,hm,hi⟩:=hx;obtain⟨k,hk,rfl⟩:=QR hm;rw[hn k hk] at hi;cases hi
 have eg:∀args w,(callFunc 61 args).run prog w=.ok (.enter 61 args) w:=enters_of func61 (by kernel_rfl) rfl
 have HC:=Hd hc;have p8:=Hd bL;have Dy:=Hd hend;clear hc bL hend h hb hx hu;go_enter func126,ntmps126;go_wp2_with fail;go_loopw [8] (fun i wr=>∃k:Nat,i=.int .i64 (k:Nat)∧k≤us.length∧Hid (∀j (hj:j<us.length),j<k→inE e us[j]=false)∧Hid (Q w wr)) (fun i _=>us.length-(intOf i).toNat)
 case atStart=>exact⟨0,rfl,MD _,Hd (fun j _ hj=>U),Hd (Q.refl _)⟩
 case round =>
  obtain⟨k,rfl,hk,HN,HQ⟩:=hrel;by_cases ay:k<us.length
  ·have bq:(k:Int)<(us.length:Int):=U
   have lT:(0:Int)≤(k:Int):=U;obtain⟨b,off,rfl,hd⟩:=HC.out U;obtain⟨c0,c1⟩:=hd k ay;replace c0:=aj HQ.out c0;replace c1:=aj HQ.out c1;have bL:=p8.out k ay wr HQ.out;have HL:=Hd bL;clear hd bL;obtain⟨r,hr⟩:∃r,r=inE e us[k]:=⟨_,rfl⟩;rw[←hr] at HL;have HR:=Hd hr;have Ag:∀j (hj:j<us.length),j=k→inE e us[j]=r:=fun j hj OC=>by subst OC;exact hr.symm
   have Zz:=Hd Ag;clear hr Ag;generalize hy:us[k]=y at *;clear hy;go_wp2_with fail;refine HL.out.mono ?_;rintro x w2 ⟨rfl,q2⟩;have Q2:=Hd (HQ.out.trans q2);clear q2;cases r
   ·go_wp2_with fail
    go_roundw;case rel=>exact⟨k+1,by go_num,ay,Hd (fun j hj OC=>by
     rcases adl j k with h|h
     ·exact HN.out j hj h
     ·exact Zz.out j hj U),Q2⟩
    case measure=>simp[intOf];omega
   ·go_wp2_with fail
    go_ret;exact⟨⟨k,rfl,U⟩,Q2.out⟩
  ·exact(Dy.out (fun j hj=>HN.out j hj U)).elim
theorem PU(e:Nat×Nat)(B:Nat)(v:Value)(us:List (Nat×Nat))(w:World)(h:Sl w v us.length 2 (ext us))(hb:Blk w B 120 #[.int .i64 (e.1:Nat),.int .i64 (e.2:Nat)])(he:e.1+e.2≤1000000)(hu:∀u∈us,u.1+u.2≤1000000)(hl:us.length≤100000)(hx:∃u∈us,inE e u=true):
  Calls prog 60 #[v,.func (.func 61) #[] #[.pointer (some ⟨B,0,none⟩)]] w fun x w'=>x=.returned (.bool true)∧Q w w':=by
 have hi:=XF e B v us w h hb he hu hl hx;obtain⟨a,cap,rfl,_⟩:=jS h;have HI:=Hd hi;clear hi h hb hx hu;go_enter func60,ntmps60;go_wp2_with fail;refine HI.out.mono ?_;rintro x w1 ⟨⟨z,rfl,hz⟩,q1⟩;have Q1:=Hd q1;clear q1;have bY:(0:Int)≤(z:Int):=U;go_wp2_with fail;go_ret;exact⟨rfl,Q1.out⟩
theorem cg.gO{w:World}{F:Nat→Prop}{sb b:Nat}{σ:StL}{K:Nat}(h:cg w F sb b σ K)(hn:iL σ):Calls prog 59 #[au sb] w fun e w'=>∃v,e=.returned v∧Sl w' v (mW σ.ai (ak σ.n) σ.n).length 2 (ext (mW σ.ai (ak σ.n) σ.n))∧Q w w' :=
 (p5 w F sb b σ K h hn).mono fun e w' hx=>by
  obtain⟨v,r1,r2,r3⟩:=hx
  exact⟨v,r1,Sl.cy r2,r3⟩
def jw(fs:Nat)(l:List ax)(k:Nat):List (Nat×Nat):=(fs,12)::nJ (l.take k)
theorem Vb(fs:Nat)(l:List ax)(k:Nat)(h:k<l.length):jw fs l (k+1)=jw fs l k++l[k].ext:=by
 unfold jw;rw[NY l k h];rfl
theorem B8(b:Bytes)(lo k:Nat):(dR b lo k).length≤k:=by
 induction k with
 | zero=>simp[dR]
 | succ k ih =>
  rw[dR];split
  ·split
   ·split
    ·simp;omega
    ·simp;omega
   ·simp
  ·omega
theorem vl(x:List (Nat×Nat))(h:∀e∈x,e.2≤4096):total x≤4096*x.length:=by rw[←J9];exact Bc x h
theorem Gy(a b:List (Nat×Nat)):total (a++b)=total a+total b:=by simp[total]
theorem vt(w:World)(F:Nat→Prop)(fb sb b:Nat)(φ:FsL)(K:Nat)(v:Value){KI:Nat}{fr:List (List WrL)}{C:Nat→Bytes}(h:FsG w F fb sb b φ K v)(hI:bz KI φ fr C)(gM:KI<18446744073709551616):
  Calls prog 25 #[au fb] w fun e w'=>e=.returned (.bool true)∧Q w w':=by
 obtain⟨i0,hi,bY,bB,aW⟩:=info_parts zl;have hn:iL φ.st:=hI.st.num gM;have iH:=hn.max;have hroom:=hI.good.room;have bQ:=hI.good.ok;obtain⟨aew,YQ⟩:=hI.count;replace YQ:φ.used+φ.st.free=φ.st.n-ak φ.st.n:=YQ;have eP:=fun X (q:Q w X)=>(h.st.keep q).lA iH
 have dZ:=fun X (q:Q w X)=>(h.st.keep q).hlen
 have Co:∀X,Q w X→Calls prog 57 #[v,.int .i64 ((ak φ.st.n:Int)+12),.int .i64 (φ.st.n:Nat)] X fun e w'=>e=.returned (.bool true)∧Q X w':=fun X q=>by
  have:=Ke v φ.l (ak φ.st.n+12) φ.st.n X (h.keep q).files.s bQ iH;rwa [show((ak φ.st.n+12:Nat):Int)=(ak φ.st.n:Int)+12 by omega] at this
 have pO:=fun X (q:Q w X)=>(h.st.keep q).gO hn
 have Wd:=fun X (q:Q w X)=>N9 X F fb sb b φ K v (h.keep q) hn U
 have TD:total (jw (ak φ.st.n) φ.l φ.l.length)=φ.used:=by
  unfold jw;rw[N5,aew];show 12+total (nJ φ.l)=_;rw[←J9,NW,QM bQ.ok]
 have aex:∀e∈jw (ak φ.st.n) φ.l φ.l.length,(∃u∈mW φ.st.ai (ak φ.st.n) φ.st.n,inE e u=true)∧e.1+e.2≤1000000:=fun e he=>by
  unfold jw at he;rw[N5] at he;have hc:e=(ak φ.st.n,12)∨∃f∈φ.l,e∈f.ext:=by
   rcases NL.1 he with he|he
   ·exact .inl he
   ·obtain⟨f,hf,he⟩:=PT.1 he
    exact .inr ⟨f,hf,he⟩
  obtain⟨r,hr,r1,r2⟩:=hI.cover hc;refine⟨⟨r,hr,NO ⟨r1,r2⟩⟩,?_⟩;rcases hc with rfl|⟨f,hf,he⟩
  ·simp only;omega
  ·have:=(bQ.ok f hf).ext e he;omega
 have aey:∀(k:Nat) (hk:k<φ.l.length) (j:Nat),total (jw (ak φ.st.n) φ.l k++φ.l[k].ext.take j)≤100000000∧(jw (ak φ.st.n) φ.l k++φ.l[k].ext.take j).length≤10000:=fun k hk j=>by
  have hm:∀e∈jw (ak φ.st.n) φ.l k++φ.l[k].ext.take j,e.2≤4096:=fun e he=>by
   rcases No.1 he with he|he
   ·unfold jw at he
    rcases NL.1 he with rfl|he
    ·show 12≤4096
     decide
    ·obtain⟨f,hf,he⟩:=PT.1 he
     have:=(bQ.ok f (Sf hf)).ext e he;omega
   ·have:=(bQ.ok _ (MA hk)).ext e (Sf he);omega
  have h1:=Ka bQ.ok k;have h2:=(bQ.ok _ (MA hk)).few;have h3:=bQ.few;have hl:(jw (ak φ.st.n) φ.l k++φ.l[k].ext.take j).length≤2000:=by
   unfold jw;rw[Δ,Mu,Mz];omega
  have:=vl _ hm;omega
 have jy:(jw (ak φ.st.n) φ.l φ.l.length).length≤2000:=by
  have h1:=Ka bQ.ok φ.l.length;have h3:=bQ.few;unfold jw;rw[Mu];omega
 have hub:∀u∈mW φ.st.ai (ak φ.st.n) φ.st.n,u.1+u.2≤1000000:=fun u hu=>by
  rw[yC _ _ _ hI.st.map.low U] at hu;have:=BN _ _ _ u hu;omega
 have nk:(mW φ.st.ai (ak φ.st.n) φ.st.n).length≤100000:=by
  rw[yC _ _ _ hI.st.map.low U];have:=B8 φ.st.ai (ak φ.st.n) (φ.st.n-ak φ.st.n);omega
 have ab7:=fun (k:Nat) (hk:k<φ.l.length)=>bQ.ok _ (MA hk)
 obtain⟨c0,c1,c2,_⟩:=h.box.c4;have hc0:=c0;obtain⟨la,lc,rfl,aC⟩:=h.files.s.value;have rF:ak φ.st.n≤4096:=U;have hlen:=bQ.few;have iW:=Hd eP;have iV:=Hd dZ;have LX:=Hd Co;have Tf:=Hd pO;have HUF:=Hd Wd;have aeA:=Hd TD;have aeB:=Hd aex;have ab8:=Hd ab7;have aX:=Hd aC;have aiO:=Hd aey;have HUB:=Hd hub;have VX:=Hd nk;have HC0:=Hd hc0;clear hc0 aey hub nk eP dZ Co pO Wd TD aex ab7 aC h hI aew YQ bQ hn hroom;generalize ak φ.st.n=fs at *;have e12:IntKind.i64.wrap ((fs:Int)+12)=(fs:Int)+12:=IntWalk.i64_in _ U;go_enter func25,ntmps25;go_wp2_with fail;refine(iW.out _ (Q.refl w)).mono ?_;rintro e w1 ⟨rfl,rfl⟩;go_wp2_with fail;have KK:=Hd (Q.refl w)
 (go_region_held3 (fun w'=>w'.cell? ⟨fb,1,none⟩=some (au b)∧w'.cell? ⟨fb,2,none⟩=some (.slice la φ.l.length lc))
  (first|exact⟨c1,c2⟩|exact two δ c1 c2)
  (first
   | (go_at_call 58;with_reducible refine(iV.out _ ω).mono ?_;rintro e w3 ⟨rfl,rfl⟩)
   | (go_at_call 57;with_reducible refine(LX.out _ ω).mono ?_;rintro e w3 ⟨rfl,q3⟩;have s':Q w w3:=Q.trans ω q3;clear KK;have KK:=Hd s';clear s' q3)))
 have Q3:=Hd KK.out;replace c0:=aj KK.out c0;replace c1:=aj KK.out c1;replace c2:=aj KK.out c2;clear KK;go_wp2_with fail;refine(iW.out _ Q3.out).mono ?_;rintro e w4 ⟨rfl,rfl⟩;have dP:=World.ownsRow_lit (e:=120) (size:=2) w3 #[.int .i64 (fs:Nat),.int .i64 12] 1 (Ω _) Z κ;have qr:=Q.alloc w3 (.cells #[.int .i64 (fs:Nat),.int .i64 12] 120);obtain⟨wb,rV⟩:∃wb,wb=w3.alloc (.cells #[.int .i64 (fs:Nat),.int .i64 12] 120):=⟨_,rfl⟩;rw[←rV] at dP qr;replace c0:=aj qr c0;replace c1:=aj qr c1;replace c2:=aj qr c2;have lu:=Hd dP;have QB:=Hd qr;have Pq:=Hd qr.size;clear dP qr;go_upto_region 6 with fail;rw[←rV];clear rV;go_wp2_with fail;go_loopw [4,5,43] (fun nv av i wr=>∃k:Nat,i=.int .i64 (k:Nat)∧k≤φ.l.length∧nv=.int .i64 (total (jw fs φ.l k):Nat)∧Hid (wr.ownsRow w3.heap.size 120 2 av (jw fs φ.l k).length (ext (jw fs φ.l k)))∧Hid (Q w3 wr)) (fun _ _ i _=>φ.l.length-(intOf i).toNat)
 case atStart=>exact⟨0,rfl,MD _,by unfold jw;rw[TE];rfl,by unfold jw;rw[TE];exact lu,QB⟩
 case round =>
  obtain⟨k,rfl,hk,rfl,HO,HQ⟩:=hrel;by_cases ay:k<φ.l.length
  ·have bq:(k:Int)<(φ.l.length:Int):=U
   have lT:(0:Int)≤(k:Int):=U;obtain⟨lb,lo,rfl,hd⟩:=aX.out U;obtain⟨av,x0,x1,x2,x3,bX⟩:=hd k ay;obtain⟨ea,ec,rfl,hex⟩:=jS bX;replace x0:=aj (Q3.out.trans HQ.out) x0;replace x1:=aj (Q3.out.trans HQ.out) x1;replace x2:=aj (Q3.out.trans HQ.out) x2;replace x3:=aj (Q3.out.trans HQ.out) x3;have nA:=Vb fs φ.l k ay;have uf:=aiO.out k ay;have xK:=(ab8.out k ay).few;have pF:=fun (j:Nat) (hj:j<φ.l[k].ext.length)=>(ab8.out k ay).ext _ (MA hj)
   have qx:=Q.alloc wr (.cells #[ah φ.l[k].name,.bool φ.l[k].sl,.int .i64 (φ.l[k].size:Nat),.slice ea φ.l[k].ext.length ec] 56);have bZ:=Blk.new wr 56 #[ah φ.l[k].name,.bool φ.l[k].sl,.int .i64 (φ.l[k].size:Nat),.slice ea φ.l[k].ext.length ec];have HOX:=Hd (ownsRow_below HO.out qx);have HQX:=Hd (HQ.out.trans qx);have ou:=Hd bZ;have BF:=Hd hex;have CQ:=Hd (And.intro ay nA);have HBN:=Hd uf;have HFE:=Hd pF;clear qx bZ hex nA uf bX hd pF hk HO HQ;generalize φ.l[k]=f at *;obtain⟨fn,fsl,fsz,fx⟩:=f;simp only[] at *;go_upto_region 9 with fail;obtain⟨b0,b1,b2,b3,_⟩:=ou.out.c4;generalize wr.alloc (.cells #[ah fn,.bool fsl,.int .i64 (fsz:Nat),.slice ea fx.length ec] 56)=wx at *;go_wp2_with fail;clear b0 b1 b2 b3 x0 x1 x2 x3 ou;generalize hE:jw fs φ.l k=E at *;go_loopw [4,5,50] (fun nv av i wr=>∃j:Nat,i=.int .i64 (j:Nat)∧j≤fx.length∧nv=.int .i64 (total (E++fx.take j):Nat)∧Hid (wr.ownsRow w3.heap.size 120 2 av (E++fx.take j).length (ext (E++fx.take j)))∧Hid (Q w3 wr)) (fun _ _ i _=>fx.length-(intOf i).toNat)
   case atStart=>exact⟨0,rfl,MD _,by rw[TE,ON],by rw[TE,ON];exact HOX,HQX⟩
   case round =>
    obtain⟨j,rfl,hj,rfl,Pn,Po⟩:=hrel;obtain⟨wi,rfl⟩:∃wi:World,wi=wr:=⟨_,rfl⟩;by_cases FP:j<fx.length
    ·have ZV:(j:Int)<(fx.length:Int):=U
     have Bn:(0:Int)≤(j:Int):=U;obtain⟨eb,eo,rfl,ZM⟩:=BF.out U;obtain⟨y0,y1⟩:=ZM j FP;replace y0:=aj (Q3.out.trans Po.out) y0;replace y1:=aj (Q3.out.trans Po.out) y1;have hb1:=HBN.out (j+1);have kH:E++fx.take (j+1)=(E++fx.take j)++[fx[j]]:=by rw[M2 FP,MY]
     have Ad:=Hd kH;rw[kH] at hb1;rw[Gy,Δ,show total [fx[j]]=fx[j].2 by simp[total]] at hb1
     clear kH ZM;generalize fx[j]=y at *;obtain⟨ya,yc⟩:=y;simp only[Mu,OF] at y0 y1 hb1;obtain⟨E2,hE2⟩:∃E2,E2=E++fx.take j:=⟨_,rfl⟩;rw[←hE2] at Pn Ad hb1 ⊢;clear hE2;have q1:=Q.alloc wi (.cells #[.int .i64 (ya:Nat),.int .i64 (yc:Nat)] 120);have bN:=Blk.new wi 120 #[.int .i64 (ya:Nat),.int .i64 (yc:Nat)];have q2:=Q.alloc (wi.alloc (.cells #[.int .i64 (ya:Nat),.int .i64 (yc:Nat)] 120)) (.cells #[.int .i64 (ya:Nat),.int .i64 (yc:Nat)] 120);have kr:=Sl.lit (wi.alloc (.cells #[.int .i64 (ya:Nat),.int .i64 (yc:Nat)] 120)) #[.int .i64 (ya:Nat),.int .i64 (yc:Nat)] 120 1 2 rfl;rw[World.size_alloc] at kr;have H1:Hid (∀u∈[Value.int .i64 (ya:Nat),Value.int .i64 (yc:Nat)],u.oneCell'=true):=Hd (by intro u hu;simp at hu;rcases hu with rfl|rfl<;>rfl)
     have H2:Hid (E2.length+1≤maxLen):=Hd (by unfold maxLen;omega)
     have H3:Hid ((E2.length+1)*16≤140737488355328):=Hd U;have V7:=Hd (ownsRow_below (ownsRow_below Pn.out q1) q2);have HQC:=Hd (Po.out.trans (q1.trans q2));have H4:=Hd (My Pq.out (Ω wb.heap.size));have ZW:=Hd kr;have qC:=Hd (bN.stays q2);have qP:=fun g hg=>(Pn.out.lt g hg).2
     have BH:=Hd qP;have e1:IntKind.i64.wrap ((total E2:Int)+(yc:Int))=((total E2+yc:Nat):Int):=by rw[IntWalk.i64_in _ U];omega
     obtain⟨p0,p1,_⟩:=bN.c2;have H5:=Hd HQC.out.size;clear q1 q2 kr qP bN hb1 H4;go_wp2_with (at_builtin;go_must (refine fM ((wi.alloc (.cells #[.int .i64 (ya:Nat),.int .i64 (yc:Nat)] 120)).alloc (.cells #[.int .i64 (ya:Nat),.int .i64 (yc:Nat)] 120)) ρ _ _ 54 ρ w3.heap.size 120 i0 (.agg #[.int .i64 0,.int .i64 0]) 2 16 underlying54 hi bY bB aW rfl Z _ _ _ ρ V7.out _ 1 _ ρ ZW.out H1.out H2.out H3.out H5.out ?_))
     intro v' w4 Cq lV _;have lH:=Hd (Below.grown HQC.out lV H5.out (fun j hj=>(V7.out.lt j hj).1))
     have sN:Blk w4 wi.heap.size 120 #[.int .i64 (ya:Nat),.int .i64 (yc:Nat)]:=(lV.block _ qC.out.lt (fun e=>absurd (BH.out _ e.symm) (US _))).trans qC.out
     obtain⟨r0,r1,_⟩:=sN.c2;have Pf:=Hd Cq;clear Cq lV sN p0 p1 y0 y1;go_wp2_with fail;go_roundw;case rel=>exact⟨j+1,by go_num,FP,by rw[Ad.out,Gy,show total [(ya,yc)]=yc by simp[total],abf],Hd (by rw[Ad.out,Δ,jP];exact Pf.out),lH⟩
     case measure=>simp[intOf];omega
    ·obtain rfl:j=fx.length:=U
     have ZV:¬(fx.length:Int)<(fx.length:Int):=U;rw[N5] at Pn ⊢;go_wp2_with fail;go_roundw;case rel=>exact⟨k+1,by go_num,CQ.out.1,by rw[CQ.out.2],by rw[CQ.out.2];exact Pn,Po⟩
     case measure=>have:=CQ.out.1;simp[intOf];omega
  ·obtain rfl:k=φ.l.length:=U
   have bq:¬(φ.l.length:Int)<(φ.l.length:Int):=U;have dP:=HO.out;obtain⟨ga,gc,rfl,Mw⟩:=aY dP;have hall:=Sl.cy dP;obtain⟨ga',gc',he,L8⟩:=jS hall;simp only[Value.slice.injEq,aeJ] at he;obtain⟨rfl,rfl⟩:=he;have HAC:=Hd L8;clear Mw hall L8 dP HO;have QW:=Hd (Q3.out.trans HQ.out);have z0:=aj QW.out HC0.out;have zI:=aeB.out;have JF:=aeA.out;generalize jw fs φ.l φ.l.length=A at *;have CG:=Hd zI;have nW:=Hd JF;clear zI JF aeB aeA;go_wp2_with fail;refine(Tf.out _ QW.out).mono ?_;rintro e w5 ⟨uv,rfl,aaV,q5⟩;have QU:=Hd q5;obtain⟨ua,uc,rfl,hux⟩:=jS aaV;clear hux;have Z0:=fun (X:World) (q:Q w5 X) (B:Nat) (j:Nat) (hj:j<A.length) (hb:Blk X B 120 #[.int .i64 (A[j].1:Nat),.int .i64 (A[j].2:Nat)])=>PU A[j] B _ _ X (aaV.stays q) hb (CG.out _ (MA hj)).2 HUB.out VX.out (CG.out _ (MA hj)).1
   have HCT:=Hd Z0;clear Z0 q5 aaV z0;generalize (mW φ.st.ai fs φ.st.n).length=un at *;go_wp2_with fail;go_loopw [71] (fun i wq=>∃j:Nat,i=.int .i64 (j:Nat)∧j≤A.length∧Hid (Q w5 wq)) (fun i _=>A.length-(intOf i).toNat)
   case atStart=>exact⟨0,rfl,MD _,Hd (Q.refl _)⟩
   case round =>
    obtain⟨j,rfl,hj,HJ⟩:=hrel;have QJ:=Hd (QW.out.trans (QU.out.trans HJ.out));by_cases FP:j<A.length
    ·have ZV:(j:Int)<(A.length:Int):=U
     have Bn:(0:Int)≤(j:Int):=U;obtain⟨gb,gf,rfl,kR⟩:=HAC.out U;obtain⟨y0,y1⟩:=kR j FP;replace y0:=aj (QU.out.trans HJ.out) y0;replace y1:=aj (QU.out.trans HJ.out) y1;have qx:=Q.alloc wr (.cells #[.int .i64 (A[j].1:Nat),.int .i64 (A[j].2:Nat)] 120);have Z0:=HCT.out _ (HJ.out.trans qx) wr.heap.size j FP (Blk.new wr _ _);have HX:=Hd Z0;have Vy:=Hd (HJ.out.trans qx);clear qx Z0 kR;generalize A[j]=y at *;obtain⟨ya,yc⟩:=y;simp only[] at y0 y1 HX Vy;go_wp2_with fail;refine HX.out.mono ?_;rintro e w7 ⟨rfl,q7⟩;have HJ7:=Hd (Vy.out.trans q7);clear q7 y0 y1;go_wp2_with fail;go_roundw;case rel=>exact⟨j+1,by go_num,FP,HJ7⟩
     case measure=>simp[intOf];omega
    ·obtain rfl:j=A.length:=U
     have ZV:¬(A.length:Int)<(A.length:Int):=U;have Wd:=HUF.out _ QJ.out;rw[←nW.out] at Wd;have HU:=Hd Wd;clear Wd;go_wp2_with fail;refine HU.out.mono ?_;rintro e w7 ⟨rfl,q7⟩;have Q7:=Hd (QJ.out.trans q7);clear q7;go_wp2_with fail;go_ret;exact⟨rfl,Q7.out⟩
end
section
open Go.RowKit
section
variable {w:World} {F:Nat→Prop} {fb sb b:Nat} {φ:FsL} {K:Nat} {v:Value}
theorem FsG.set3(h:FsG w F fb sb b φ K v)(s:Bytes):FsG (w.setCell ⟨fb,3,none⟩ (ah s)) F fb sb b ⟨φ.st,φ.l,s⟩ K v∧ae (fun k=>k=fb) w (w.setCell ⟨fb,3,none⟩ (ah s)):=by
 have t:ae (fun k=>k=fb) w (w.setCell ⟨fb,3,none⟩ (ah s)):=ae.setCell (a:=⟨fb,3,none⟩) (ae.refl (fun k=>k=fb) w) (.inl rfl) _
 exact⟨⟨h.st.beside t (fun k hk e=>h.nb (e▸hk)),h.box.set 3 (ah s),h.nb,h.files.bh t (fun k hk e=>hk (.inr e))⟩,t⟩
theorem FsG.set2(h:FsG w F fb sb b φ K v){v':Value}{l:List ax}(hv:cn (fun k=>¬own F fb k) w v' l):FsG (w.setCell ⟨fb,2,none⟩ v') F fb sb b ⟨φ.st,l,φ.packed⟩ K v'∧ae (fun k=>k=fb) w (w.setCell ⟨fb,2,none⟩ v'):=by
 have t:ae (fun k=>k=fb) w (w.setCell ⟨fb,2,none⟩ v'):=ae.setCell (a:=⟨fb,2,none⟩) (ae.refl (fun k=>k=fb) w) (.inl rfl) _
 exact⟨⟨h.st.beside t (fun k hk e=>h.nb (e▸hk)),h.box.set 2 v',h.nb,hv.bh t (fun k hk e=>hk (.inr e))⟩,t⟩
theorem RdS.first{w0:World}{B:Nat}{l:Bytes}(h:RdS w0 w F fb sb b φ K v B l)(hn:φ.st.n≤4096):Calls prog 51 #[au sb] w fun e w'=>e=.returned (.int .i64 (ak φ.st.n:Nat))∧w=w':=by
 obtain⟨G1,h1,_⟩:=h.k;exact h1.st.lA hn
end
theorem Rf(w:World)(F:Nat→Prop)(b:Nat)(d:af)(most:Nat)(l:List ax)(h:cE w F b d)(hF:∀k,F k→k<w.heap.size)(hd:d.Ok)(hp:d.dead=false→d.p.length≤800000)(hm:64≤most∧most≤1024)(ho:DK d){KI:Nat}{fr:List (List WrL)}{C:Nat→Bytes}(hI:bz KI (ng d l) fr C)(gM:KI<18446744073709551616):
  Calls prog 19 #[au b,.int .i64 (most:Nat)] w fun e w'=>∃fb,e=.returned (.tuple #[au fb,.int .i64 0])∧(∃(G:Nat→Prop) (sb:Nat),ja w' G fb sb b (ng d l) 12∧∀k,G k→grow F w w' k)∧w.heap.size≤fb∧ae F w w':=by
 have fB:=QH w F b d most h hF hd hp hm ho;have hn:iL (aV d):=hI.st.num gM;have iH:=hn.max;have hroom:ak (aV d).n+12≤(aV d).n:=hI.good.room;have bW:(bR l).length=3072:=kg hI.good.fits;have mO:(aV d).tx=[]:=hI.st.closed hI.closed;have dz:∀k:Nat,k<12→(aV d).read ((ak (aV d).n:Int)+(k:Int))=(aG (bR l) k,0):=fun k hk=>by
  have h1:(aV d).dead=false:=hI.alive;have h2:(aV d).cP ((ak (aV d).n:Int)+(k:Int))=true:=by unfold StL.cP;simp;omega
  have h3:(aV d).get (ak (aV d).n+k)=aG (bR l) k:=by
   have lK:63≤ak (aV d).n:=by unfold ak;omega
   have:=hI.st.get (ak (aV d).n+k) U (by show _<(aV d).n;omega)
   rw[show(ng d l).st=aV d from rfl,mO] at this
   rw[this];exact hI.good.dir k hk
  unfold StL.read;rw[h1,h2,η Z,Φ rfl,show((ak (aV d).n:Int)+(k:Int)).toNat=ak (aV d).n+k by omega,h3]
 have nV:=fun (X:World)=>vi l _ _ X hI.good.ok iH hI.good.fits
 have hwh:=fun (X:World) (G:Nat→Prop) (fb sb:Nat) (v:Value) (hX:FsG X G fb sb b (ng d l) 12 v)=>vt X G fb sb b (ng d l) 12 v hX hI gM
 have xV:(ng d l).st=aV d:=rfl;have vB:=Hd fB;have HN:=Hd hn;have iO:=Hd dz;have zL:=Hd nV;have HWH:=Hd hwh;have zJ:=Hd bW;clear fB hn dz nV hwh mO hroom hI hd hp ho h xV;obtain⟨σ,hσ⟩:∃σ,σ=aV d:=⟨_,rfl⟩;have aiP:σ.n≤4096:=by rw[hσ];exact iH
 have rF:ak σ.n≤5000:=by unfold ak aD;omega
 have aC:(⟨(aL d).1,mapD (aL d).1.d,[],false,[]⟩:StL)=σ:=hσ.symm;rw[aC] at vB;rw[←hσ] at HN iO;have HSG:=Hd hσ;clear aC hσ;go_enter func19,ntmps19;go_wp2_with fail;refine vB.out.mono ?_;rintro e w1 ⟨sb,rfl,h1,t1⟩;have hg:=FsG.new h1;have kS:=RdS.new hg;have T1:=Hd t1;have xO:=Hd kS;have HGN:=Hd hg;clear h1 t1 hg kS;go_wp2_with fail;obtain⟨w2,gD⟩:∃w2,w2=w1.alloc (.cells #[au sb,au b,.slice none 0 0,ah []] 90):=⟨_,rfl⟩;have aeC:w2=w1.alloc (.cells #[au sb,au b,.slice none 0 0,.string { data:=#[] }] 90):=gD;have hB:w2.heap.size=w1.heap.size+1:=by rw[gD,World.size_alloc]
 rw[←gD] at xO HGN;rw[hB] at xO;rw[←aeC];have OD:w1.heap.size<w2.heap.size:=by rw[gD,World.size_alloc];exact acu _
 have bJ:Hid (Q w1 w2):=Hd (by rw[gD];exact Q.alloc _ _)
 clear gD aeC;go_loopw [26] (fun i wr=>∃k:Nat,i=.int .i64 (k:Nat)∧k≤12∧Hid (RdS w2 wr (grow F w w1) w1.heap.size sb b ⟨σ,[],[]⟩ (0+k) (.slice none 0 0) (w1.heap.size+1) ((bR l).take (256*k)))) (fun i _=>12-(intOf i).toNat)
 case atStart=>exact⟨0,rfl,MD _,xO⟩
 case round =>
  obtain⟨k,rfl,hk,HR⟩:=hrel;by_cases ay:k<12
  ·have bq:(k:Int)<12:=U
   have lT:(0:Int)≤(k:Int):=U;have eP:=HR.out.first aiP
   have ug:=HR.out.read ((ak σ.n:Int)+(k:Int)) HN.out U;rw[show(⟨σ,[],[]⟩:FsL).st=σ from rfl,iO.out k ay] at ug
   rw[show(⟨σ,[],[]⟩:FsL).st=σ from rfl] at eP
   simp only[] at ug;have fV:(aG (bR l) k).length=256:=ni zJ.out ay;have htp:=NV (bR l) k;have jB:=fun (X:World) (hX:RdS w2 X (grow F w w1) w1.heap.size sb b ⟨σ,[],[]⟩ (0+k+1) (.slice none 0 0) (w1.heap.size+1) ((bR l).take (256*k)))=>hX.write (aG (bR l) k) (by rw[Mz];omega)
   rw[htp] at jB;have e1:IntKind.i64.wrap ((ak σ.n:Int)+(k:Int))=(ak σ.n:Int)+(k:Int):=IntWalk.i64_in _ U;have iW:=Hd eP;have Ie:=Hd ug;have vC:=Hd jB;clear eP ug jB htp fV;generalize aG (bR l) k=t at *;go_wp2_with fail;refine iW.out.mono ?_;rintro e w3 ⟨rfl,rfl⟩;go_wp2_with fail;refine Ie.out.mono ?_;rintro e w4 ⟨rfl,h4⟩;have Fq:=vC.out w4 h4;have HW4:=Hd Fq;clear h4 Fq;go_wp2_with fail;refine HW4.out.mono ?_;rintro e w5 ⟨rfl,h5⟩;have H5:=Hd h5;clear h5;go_wp2_with fail;go_roundw;case rel=>exact⟨k+1,by go_num,U,H5⟩
   case measure=>simp[intOf];omega
  ·obtain rfl:k=12:=U
   have bq:¬((12:Nat):Int)<12:=U;have zR:=HR.out.str;rw[NE (by rw[bW];decide)] at zR
   have HS:=Hd zR;clear zR HR;go_wp2_with fail;refine HS.out.mono ?_;rintro e w3 ⟨rfl,h3⟩;obtain⟨G1,x1,x2,x3⟩:=h3;obtain⟨y1,ty⟩:=x1.set3 (bR l);obtain⟨_,_,c2,c3,_,_,f2,f3⟩:=x1.box.c4;have X2:=Hd x2;have X3:=Hd x3;have Y1:=Hd y1;have TY:=Hd ty;clear x1 x2 x3 y1 ty;simp only[] at c3;go_upto_region 15 with fail;generalize w3.setCell ⟨w1.heap.size,3,none⟩ (ah (bR l))=w4 at *;clear c2 c3 f2 f3;obtain⟨_,_,c2,c3,_,_,f2,f3⟩:=Y1.out.box.c4;have nV:=zL.out w4;have HU:=Hd nV;clear nV zL;generalize fV:bR l=pk at *;have kY:=Hd fV;clear fV;go_wp2_with fail;refine HU.out.mono ?_;rintro e w5 ⟨⟨lv,rfl,lI⟩,q5⟩;obtain⟨pa,pc,rfl,_⟩:=lI.s.value;have hf5:cn (fun k=>¬own G1 w1.heap.size k) w5 (.slice pa l.length pc) l:=lI.mono fun k hk _ hc=>by have:=Y1.out.fy k hc;omega
   obtain⟨z1,tz⟩:=(Y1.out.keep q5).set2 hf5;obtain⟨_,_,c2',_,_,_,f2',_⟩:=(Y1.out.keep q5).box.c4;have Z1:=Hd z1;have TZ:=Hd tz;have Q5:=Hd q5;clear c2 c3 f2 f3 lI hf5 z1 tz q5 HU;go_upto_region 16 with fail;generalize w5.setCell ⟨w1.heap.size,2,none⟩ (.slice pa l.length pc)=w6 at *;clear c2' f2';have hwz:=HWH.out w6 G1 w1.heap.size sb (.slice pa l.length pc) (by have:=Z1.out;rw[HSG.out,←kY.out] at this;exact this)
   have HWZ:=Hd hwz;clear hwz HWH;go_wp2_with fail;refine HWZ.out.mono ?_;rintro e w7 ⟨rfl,q7⟩;have Q7:=Hd q7;clear q7;go_wp2_with fail;go_returns;have h1:=T1.out.size;have h3:=X3.out.size;have h4:=TY.out.size;have h5:=Q5.out.size;have h6:=TZ.out.size;have h7:=Q7.out.size;have h2:=bJ.out.size;refine⟨_,rfl,⟨G1,sb,⟨_,by have:=Z1.out.keep Q7.out;rw[HSG.out,←kY.out] at this;exact this⟩,fun k hk=>?_⟩,h1,?_⟩
   ·rcases X2.out k hk with (hk|hk)|hk
    ·exact .inl hk
    ·exact .inr ⟨hk.1,U⟩
    ·exact .inr ⟨U,U⟩
   ·refine⟨Q7.out.os.trans (TZ.out.os.trans (Q5.out.os.trans (TY.out.os.trans (X3.out.os.trans (bJ.out.os.trans T1.out.os))))),Q7.out.tape.trans (TZ.out.tape.trans (Q5.out.tape.trans (TY.out.tape.trans (X3.out.tape.trans (bJ.out.tape.trans T1.out.tape))))),Q7.out.output.trans (TZ.out.output.trans (Q5.out.output.trans (TY.out.output.trans (X3.out.output.trans (bJ.out.output.trans T1.out.output))))),U,fun k hk hn=>?_⟩
    refine(Q7.out.block k U).trans ((TZ.out.block k U (fun hc=>by have h9:k=w1.heap.size:=hc;omega)).trans ((Q5.out.block k U).trans ((TY.out.block k U (fun hc=>by have h9:k=w1.heap.size:=hc;omega)).trans ((X3.out.block k U (fun hc=>?_)).trans ((bJ.out.block k U).trans (T1.out.block k hk hn))))))
    rcases hc with (hc|hc)|hc
    ·exact hn hc
    ·omega
    ·omega
end
section
open Go.RowKit
def GrS(w0 w:World)(G:Nat→Prop)(fb sb b:Nat)(φ:FsL)(K:Nat)(v:Value)(XB:Nat)(a0 a1 a2 ev:Value)(x:List (Nat×Nat)):Prop :=
 ∃G1:Nat→Prop,FsG w G1 fb sb b φ K v∧(∀k,G1 k→grow G w0 w k)∧ae (own G fb) w0 w∧cn (fun k=>¬own G fb k) w0 v φ.l ∧
  G XB∧Blk w XB 56 #[a0,a1,a2,ev]∧¬own G1 fb XB∧w.ownsRow w0.heap.size 120 2 ev x.length (ext x)∧∀g,ev.ownBlock=some g→¬own G1 fb g
section
variable {w0 w w':World} {G:Nat→Prop} {fb sb b:Nat} {φ:FsL} {K:Nat} {v:Value} {XB:Nat} {a0 a1 a2 ev:Value} {x:List (Nat×Nat)}
theorem GrS.k(h:GrS w0 w G fb sb b φ K v XB a0 a1 a2 ev x):FsK w0 w G fb sb b φ K v:=by
 obtain⟨G1,h1,h2,h3,_⟩:=h;exact⟨G1,h1,h2,h3⟩
theorem GrS.box(h:GrS w0 w G fb sb b φ K v XB a0 a1 a2 ev x):Blk w XB 56 #[a0,a1,a2,ev]:=by
 obtain⟨G1,h1,h2,h3,h4,h5,h6,_⟩:=h;exact h6
theorem GrS.row(h:GrS w0 w G fb sb b φ K v XB a0 a1 a2 ev x):w.ownsRow w0.heap.size 120 2 ev x.length (ext x):=by
 obtain⟨G1,h1,h2,h3,h4,h5,h6,h7,h8,_⟩:=h;exact h8
theorem GrS.q(h:GrS w0 w G fb sb b φ K v XB a0 a1 a2 ev x)(q:Q w w'):GrS w0 w' G fb sb b φ K v XB a0 a1 a2 ev x:=by
 obtain⟨G1,h1,h2,h3,h4,h5,h6,h7,h8,h9⟩:=h;exact⟨G1,h1.keep q,fun k hk=>(h2 k hk).imp id fun hk=>⟨hk.1,Ψ hk.2 q.size⟩,h3.trans (ae.br q),h4,h5,h6.stays q,h7,ownsRow_below h8 q,h9⟩
theorem Ki{own:Nat→Prop}{base:Nat}{e:TypeId}{size:Nat}{u:Value}{n:Nat}{xs:List Value}(h:w.ownsRow base e size u n xs)(t:ae own w w')(h2:∀g,u.ownBlock=some g→¬own g):w'.ownsRow base e size u n xs:=by
 refine⟨h.1,?_⟩;rcases h.2 with e|⟨g,cap,cur,rfl,x1,x2,x3⟩
 ·exact .inl e
 ·exact .inr ⟨g,cap,cur,rfl,x1,(t.block g (aJ x2) (h2 g rfl)).trans x2,x3⟩
theorem GrS.alloc(h:GrS w0 w G fb sb b φ K v XB a0 a1 a2 ev x)(c:Int)(hn:iL φ.st)(hK:K+2≤1000000000000000000):
  Calls prog 185 #[au sb,.int .i64 c] w fun e w'=>e=.returned (.tuple #[.int .i64 (φ.st.alloc c).2.1,.int .i64 (φ.st.alloc c).2.2])∧GrS w0 w' G fb sb b { φ with st:=(φ.st.alloc c).1 } (K+2) v XB a0 a1 a2 ev x:=by
 obtain⟨G1,h1,h2,h3,h4,h5,h6,h7,h8,h9⟩:=h;refine(K8 w G1 sb b φ.st K c h1.st hn hK).mono fun e w' hx=>⟨hx.1,?_⟩
 have t:=hx.2.2;have bP:=t.size;have h3s:=h3.size;have h6l:=h6.lt;have vw:=h8.lt;have JJ:=h1.call hx.2.1 t;refine⟨_,JJ,fun k hk=>?_,?_,h4,h5,t.blk h6 (fun hc=>h7 (.inl hc)),fun hc=>?_,Ki h8 t (fun g hg hc=>h9 g hg (.inl hc)),fun g hg hc=>?_⟩
 ·rcases hk with hk|hk
  ·exact(h2 k hk).imp id fun hk=>⟨hk.1,U⟩
  ·exact .inr ⟨U,hk.2⟩
 ·refine⟨t.os.trans h3.os,t.tape.trans h3.tape,t.output.trans h3.output,U,fun k hk hn=>(t.block k U (fun hc=>?_)).trans (h3.block k hk hn)⟩
  rcases h2 k hc with hc|hc
  ·exact hn (.inl hc)
  ·omega
 ·rcases hc with (hc|hc)|hc
  ·exact h7 (.inl hc)
  ·omega
  ·exact h7 (.inr hc)
 ·have:=(vw g hg).2
  rcases hc with (hc|hc)|hc
  ·exact h9 g hg (.inl hc)
  ·omega
  ·exact h9 g hg (.inr hc)
theorem GrS.turned(h:GrS w0 w G fb sb b φ K v XB a0 a1 a2 ev x){ev':Value}{x':List (Nat×Nat)}(t:ae (fun k=>k=XB∨ev.ownBlock=some k) w w')(hb:Blk w' XB 56 #[a0,a1,a2,ev'])(hr:w'.ownsRow w0.heap.size 120 2 ev' x'.length (ext x'))(hf:ev'.ownBlock=ev.ownBlock∨∃g,ev'.ownBlock=some g∧w.heap.size≤g):GrS w0 w' G fb sb b φ K v XB a0 a1 a2 ev' x':=by
 obtain⟨G1,h1,h2,h3,h4,h5,h6,h7,h8,h9⟩:=h;have bP:=t.size;have h3s:=h3.size;have h6l:=h6.lt;have hd:∀k,own G1 fb k→¬(k=XB∨ev.ownBlock=some k):=fun k hk hc=>hc.elim (fun e=>h7 (e▸hk)) (fun e=>h9 k e hk)
 have zW:∀k,G1 k→grow G w0 w' k:=fun k hk=>(h2 k hk).imp id fun hk=>⟨hk.1,U⟩
 have h3':ae (own G fb) w0 w':=⟨t.os.trans h3.os,t.tape.trans h3.tape,t.output.trans h3.output,U,fun k hk hn=>(t.block k U (fun hc=>by
  rcases hc with hc|hc
  ·exact hn (.inl (by rw[hc];exact h5))
  ·have:=(h8.lt k hc).1;omega)).trans (h3.block k hk hn)⟩
 refine⟨G1,⟨h1.st.beside t (fun k hk=>hd k (.inl hk)),t.blk h1.box (hd fb (.inr rfl)),h1.nb,FsG.moved zW h3' h4⟩,zW,h3',h4,h5,hb,h7,hr,fun g hg hc=>?_⟩
 rcases hf with e|⟨g',e,Ph⟩
 ·exact h9 g (by rw[←e];exact hg) hc
 ·rw[e] at hg
  have:=h1.fy g hc;cases hg;omega
end
structure GrI (KI:Nat) (σ:StL) (fr:List (List WrL)) (C:Nat→Bytes):Prop where
 st:ce KI σ fr C
 op:σ.open_=true
 map:fO σ
theorem GrI.alloc{KI:Nat}{σ:StL}{fr:List (List WrL)}{C:Nat→Bytes}(h:GrI KI σ fr C)(k:Nat)(hk:1≤k):
  (fK σ.ai k σ.n=none∧σ.alloc k=(σ,0,9))∨∃a,fK σ.ai k σ.n=some a∧σ.alloc k=((σ.bh a k true).1,(a:Int),0)∧ak σ.n≤a∧a+k≤σ.n∧GrI KI (σ.bh a k true).1 fr C∧(σ.bh a k true).1.n=σ.n:=by
 have jy:=AY h.st h.op h.map k hk;cases hf:fK σ.ai k σ.n with
 | none=>rw[hf] at jy;exact .inl ⟨rfl,jy⟩
 | some a =>
  rw[hf] at jy;obtain⟨a1,a2,a3,a4⟩:=jy;obtain⟨t0,t1,t2,t3,t4,t5⟩:=yF h.st h.op h.map a k true a2 a3;exact .inr ⟨a,rfl,a1,a2,a3,⟨t2,t3,t5⟩,fq t4⟩
theorem XG{σ:StL}{x:List (Nat×Nat)}{m n:Nat}(hn:n≠0)(hm:n≤m)(h:piece σ.ai σ.n n=none):σ.cY x m n=(σ,9,x):=by
 obtain⟨m,rfl⟩:∃m',m=m'+1:=⟨m-1,U⟩;rw[StL.cY,η hn,h]
theorem XH{σ:StL}{x:List (Nat×Nat)}{m n a k:Nat}(hn:n≠0)(hm:n≤m)(h:piece σ.ai σ.n n=some (a,k)):σ.cY x m n=(σ.bh a k true).1.cY (su x a k) (m-1) (n-k):=by
 obtain⟨m,rfl⟩:∃m',m=m'+1:=⟨m-1,U⟩;rw[StL.cY,η hn,h];rfl
theorem XI{σ:StL}{x:List (Nat×Nat)}{m:Nat}:σ.cY x m 0=(σ,0,x):=by
 cases m<;>simp[StL.cY]
theorem Ob(b:Bytes)(n k:Nat)(h:fK b (k+1) n=none):piece b n (k+1)=piece b n k:=by rw[piece,h]
theorem rh(b:Bytes)(n k a:Nat)(h:fK b (k+1) n=some a):piece b n (k+1)=some (a,k+1):=by rw[piece,h]
end
end Go.Proofs.YtonlbpljghohmaaGreatDoor
