/- Joined: WFsB to WFsD -/
import Derived.Test.YtbkahhebmpehnaaGreatDoorCXWInoA
set_option linter.all false
set_option maxRecDepth 100000
set_option maxHeartbeats 8000000
namespace Go.Proofs.YtbkahhebmpehnaaGreatDoor
open Go.Proofs.Tryz
section
open Go.RowKit
def FsL.wr(φ:FsL)(l:List ax):FsL:=⟨(φ.st.dir φ.packed l).1,if iA l then l else φ.l,if iA l then bR l else φ.packed⟩
section
variable {w w':World} {F:Nat→Prop} {fb sb b:Nat} {φ:FsL} {K:Nat} {v:Value}
def FsK(w w':World)(F:Nat→Prop)(fb sb b:Nat)(φ:FsL)(K:Nat)(v:Value):Prop:=∃G:Nat→Prop,FsG w' G fb sb b φ K v∧(∀k,G k→grow F w w' k)∧ae (own F fb) w w'
theorem FsK.of(h:FsG w F fb sb b φ K v):FsK w w F fb sb b φ K v:=⟨F,h,fun k hk=>.inl hk,ae.refl _ _⟩
theorem FsK.r(h:FsK w w' F fb sb b φ K v):FsR w w' F fb sb b φ K:=by
 obtain⟨G,h1,h2,h3⟩:=h;exact⟨G,⟨v,h1⟩,h2,h3⟩
theorem FsK.q{w2:World}(h:FsK w w' F fb sb b φ K v)(q:Q w' w2):FsK w w2 F fb sb b φ K v:=by
 obtain⟨G,h1,h2,h3⟩:=h;exact⟨G,h1.keep q,fun k hk=>(h2 k hk).imp id fun hk=>⟨hk.1,Ψ hk.2 q.size⟩,h3.trans (ae.br q)⟩
theorem FsK.mono{K':Nat}(h:FsK w w' F fb sb b φ K v)(hk:K≤K'):FsK w w' F fb sb b φ K' v:=by
 obtain⟨G,h1,h2,h3⟩:=h;exact⟨G,⟨h1.st.mono (fun _ x=>x) h1.st.lt hk,h1.box,h1.nb,h1.files⟩,h2,h3⟩
theorem FsK.cells(h:FsK w w' F fb sb b φ K v):w'.cell? ⟨fb,0,none⟩=some (au sb)∧w'.cell? ⟨fb,1,none⟩=some (au b)∧w'.cell? ⟨fb,2,none⟩=some v∧w'.cell? ⟨fb,3,none⟩=some (ah φ.packed):=by
 obtain⟨G,h1,_⟩:=h;obtain⟨c0,c1,c2,c3,_⟩:=h1.box.c4;exact⟨c0,c1,c2,c3⟩
theorem FsG.moved{G:Nat→Prop}{v':Value}{l:List ax}(h2:∀k,G k→grow F w w' k)(h3:ae (own F fb) w w')(hv:ci (fun k=>¬own F fb k) w v' l):ci (fun k=>¬own G fb k) w' v' l:=by
 refine((hv.mono (R:=fun k=>¬own F fb k∧k<w.heap.size) (fun k h1 h2=>⟨h1,h2⟩)).bh h3 (fun k hk=>hk.1)).mono (fun k hk _ hc=>?_)
 rcases hc with hc|hc
 ·rcases h2 k hc with hc|hc
  ·exact hk.1 (.inl hc)
  ·have:=hk.2;omega
 ·exact hk.1 (.inr hc)
theorem FsK.call(h:FsK w w' F fb sb b φ K v){σ':StL}{K':Nat}{P:Ending→Prop}{f:FuncId}{av:Array Value}
  (hc:∀(G:Nat→Prop),ce w' G sb b φ.st K→Calls prog f av w' fun e w2=>P e∧ce w2 (grow G w' w2) sb b σ' K'∧ae G w' w2) :
  Calls prog f av w' fun e w2=>P e∧FsK w w2 F fb sb b { φ with st:=σ' } K' v:=by
 obtain⟨G,h1,h2,h3⟩:=h;refine(hc G h1.st).mono fun e w2 hr=>⟨hr.1,?_⟩
 have hs:=h3.size;have jm:=hr.2.2.size;refine⟨_,h1.call hr.2.1 hr.2.2,fun k hk=>?_,⟨hr.2.2.os.trans h3.os,hr.2.2.tape.trans h3.tape,hr.2.2.output.trans h3.output,LS hs jm,fun k hk hn=>?_⟩⟩
 ·rcases hk with hk|hk
  ·exact(h2 k hk).imp id fun hk=>⟨hk.1,U⟩
  ·exact .inr ⟨U,hk.2⟩
 ·refine(hr.2.2.block k U (fun hc=>?_)).trans (h3.block k hk hn)
  rcases h2 k hc with hc|hc
  ·exact hn (.inl hc)
  ·omega
end
theorem btl(s:Bytes):(⟨s.toArray⟩:ByteArray).toList=s:=κ
theorem Aw(w:World)(F:Nat→Prop)(fb sb b:Nat)(φ:FsL)(K:Nat)(v:Value)(lv:Value)(l:List ax){KI first:Nat}{fr:List (List WrL)}{C:Nat→Bytes}(h:FsG w F fb sb b φ K v)(hl:ci (fun k=>¬own F fb k) w lv l)(hd:cN first φ.st.n l)(hs:eE KI φ.st fr C)(gM:KI<18446744073709551616)
  (hp:φ.packed=[]∨φ.packed.length=3072) (hK:K+20≤1000000000000000000) :
  Calls prog 71 #[au fb,lv] w fun e w'=>e=.returned (.int .i64 (φ.st.dir φ.packed l).2)∧FsR w w' F fb sb b (φ.wr l) (K+12):=by
 have iH:=hs.st.max;have fV:=ID lv l first φ.st.n w hl.s hd iH
 obtain⟨la,lcap,rfl,_⟩:=hl.s.value;have lS:∀hf:iA l=true,φ.st.dir φ.packed l=((φ.st.writes (vL φ.st.n φ.packed (bR l))).1,0):=fun hf=>by
  unfold StL.dir;rw[Φ hf];exact Prod.ext rfl (Gq hs _ _ (kg hf))
 have nP:=fun (hf:iA l=true) k hk=>NU hs gM φ.packed (bR l) (kg hf) k hk
 have hlen:=fun (hf:iA l=true)=>kg hf
 cases hf:iA l with
 | false =>
  have e:φ.wr l=φ∧(φ.st.dir φ.packed l).2=9:=by unfold FsL.wr StL.dir;rw[hf];exact⟨rfl,rfl⟩
  rw[e.1,e.2];rw[hf] at fV;have H0:=Hd (FsK.of h);have kY:=Hd fV;clear fV nP hlen lS hl hd hs h e;go_enter func71,ntmps71;go_wp2_with fail;refine kY.out.mono ?_;rintro e w1 ⟨rfl,q1⟩;have Q1:=Hd q1;clear q1;go_wp2_with fail;go_ret;exact⟨rfl,((H0.out.q Q1.out).mono U).r⟩
 | true =>
  have e:φ.wr l=⟨(φ.st.writes (vL φ.st.n φ.packed (bR l))).1,l,bR l⟩:=by unfold FsL.wr;rw[lS hf,Φ hf,Φ hf]
  rw[e,lS hf];rw[hf,Φ rfl,Φ rfl] at fV;replace nP:=nP hf;replace hlen:=hlen hf;have Fy:=fun (k:Nat) (hk:k<12)=>ni hlen hk
  have hex:∀s:Bytes,∀k:Nat,({ data:=s.toArray }:ByteArray).extract (k*256) ((k+1)*256)=⟨(aG s k).toArray⟩:=fun s k=>by rw[eY,show(k+1)*256-k*256=256 by omega];rfl
  have lK:ak φ.st.n≤4096:=by have:=hs.room;omega
  have H0:=Hd (FsK.of h);have kY:=Hd fV;have TH:=Hd nP;have xM:=Hd hl;have Tv:=Hd Fy;have BF:=Hd hex;clear fV nP lS hl hd hs h e hf Fy hex;generalize bR l=t at *;go_enter func71,ntmps71;go_wp2_with fail;refine kY.out.mono ?_;rintro e w1 ⟨rfl,q1⟩;have H1:=Hd (H0.out.q q1);clear q1;go_wp2_with fail;go_loopw [18] (fun i wr=>∃k:Nat,i=.int .i64 (k:Nat)∧k≤12∧Hid (FsK w wr F fb sb b { φ with st:=(φ.st.writes (iZ φ.st.n φ.packed t k)).1 } (K+k) v)) (fun i _=>12-(intOf i).toNat)
  case atStart=>exact⟨0,rfl,L0 _,H1⟩
  case round =>
   obtain⟨k,rfl,hk,HK⟩:=hrel;by_cases ay:k<12
   ·have bq:(k:Int)<12:=U
    have lT:(0:Int)≤(k:Int):=U;have e4:IntKind.i64.wrap ((ak φ.st.n:Int)+(k:Int))=(ak φ.st.n:Int)+(k:Int):=by rw[IntWalk.i64_in _ U]
    obtain⟨r1,r2,r3,r4,r5⟩:=TH.out k ay;obtain⟨c0,c1,c2,c3⟩:=HK.out.cells;have e5:((k:Int)*256)≤(((k:Int)+1)*256):=U;have e6:(0:Int)≤((k:Int)*256):=U;have e7:(((k:Int)+1)*256)≤(t.length:Int):=U;have e9:(0:Int)≤((k:Int)+1)*256:=U;have e10:((k:Int)+1)*256≤3072:=U;have e11:(k:Int)≤(k:Int)+1:=U;have x1:=BF.out t k;have x2:=BF.out φ.packed k;simp only[] at c3;by_cases hc:φ.packed=[]∨aG φ.packed k≠aG t k
    ·obtain⟨r6,r7⟩:=r5 hc
     have eP:∀W:World,FsK w W F fb sb b { φ with st:=(φ.st.writes (iZ φ.st.n φ.packed t k)).1 } (K+k) v→Calls prog 39 #[au sb] W fun e w'=>e=.returned (.int .i64 (ak φ.st.n:Nat))∧W=w':=fun W q=>by
      obtain⟨G,h1,_⟩:=q;have:=h1.st.lA r2.max;rwa [show({ φ with st:=(φ.st.writes (iZ φ.st.n φ.packed t k)).1 }:FsL).st.n=φ.st.n from r3] at this
     have jB:∀W:World,FsK w W F fb sb b { φ with st:=(φ.st.writes (iZ φ.st.n φ.packed t k)).1 } (K+k) v→Calls prog 75 #[au sb,.int .i64 ((ak φ.st.n:Int)+(k:Int)),.string (({ data:=t.toArray }:ByteArray).extract ((k:Int)*256).toNat (((k:Int)+1)*256).toNat)] W fun e w'=>e=.returned (.int .i64 0)∧FsK w w' F fb sb b { φ with st:=(φ.st.writes (iZ φ.st.n φ.packed t (k+1))).1 } (K+(k+1)) v:=fun W q=>by
      rw[r7,show((k:Int)*256).toNat=k*256 by omega,show(((k:Int)+1)*256).toNat=(k+1)*256 by omega,x1,←abl]
      exact q.call (fun G hg=>(KZ W G sb b _ (K+k) _ (aG t k) hg r2 U (by rw[Tv.out k ay];omega)).mono fun e w' hx=>⟨by rw[←r6];exact hx.1,hx.2⟩)
     have iW:=Hd eP;have vC:=Hd jB;clear r5 r4 r7 r6 r1 r2 r3 eP jB x1 x2;by_cases zy:φ.packed=[]
     ·have hb:(!φ.packed.isEmpty)=false:=by rw[zy];rfl
      clear hc zy hp;go_wp2_with fail;go_quiet (fail);go_wp2_with fail;have HKq:=Hd (HK.out.q (Q.drewN wr nq));have c0:(wr.drewN nq).cell? ⟨fb,0,none⟩=some (au sb):=HKq.out.cells.1;generalize wr.drewN nq=wb at *;have KK:=Hd (Q.refl wb)
      (go_region_held3 (fun w'=>w'.cell? ⟨fb,0,none⟩=some (au sb))
       (first|exact g0|exact c0|exact aj δ c0)
       (first
        | (go_at_call 39;with_reducible refine(iW.out _ (HKq.out.q ω)).mono ?_;rintro e w3 ⟨rfl,rfl⟩)
        | (go_at_call 75;with_reducible refine(vC.out _ (HKq.out.q ω)).mono ?_;rintro e w5 ⟨rfl,h5⟩;have g0:=h5.cells.1;have H5:=Hd h5;clear h5)))
      all_goals
       go_wp2_with fail;exact⟨⟨k+1,by go_num,U,H5⟩,by simp[intOf];omega⟩
     ·have hb:(!φ.packed.isEmpty)=true:=by simpa using zy
      have bN:(aG φ.packed k==aG t k)=false:=by simpa using hc.resolve_left zy
      have gI:((({ data:=φ.packed.toArray }:ByteArray).extract (k*256) ((k+1)*256)).toList==(({ data:=t.toArray }:ByteArray).extract (k*256) ((k+1)*256)).toList)=false:=by rw[BF.out,BF.out,btl,btl];exact bN
      have e8:(((k:Int)+1)*256)≤(φ.packed.length:Int):=by have:=hp.resolve_left zy;omega
      clear hc zy hp;go_wp2_with fail;go_quiet (fail);go_wp2_with fail;have HKq:=Hd (HK.out.q (Q.drewN wr nq));have c0:(wr.drewN nq).cell? ⟨fb,0,none⟩=some (au sb):=HKq.out.cells.1;generalize wr.drewN nq=wb at *;have KK:=Hd (Q.refl wb)
      (go_region_held3 (fun w'=>w'.cell? ⟨fb,0,none⟩=some (au sb))
       (first|exact g0|exact c0|exact aj δ c0)
       (first
        | (go_at_call 39;with_reducible refine(iW.out _ (HKq.out.q ω)).mono ?_;rintro e w3 ⟨rfl,rfl⟩)
        | (go_at_call 75;with_reducible refine(vC.out _ (HKq.out.q ω)).mono ?_;rintro e w5 ⟨rfl,h5⟩;have g0:=h5.cells.1;have H5:=Hd h5;clear h5)))
      all_goals
       go_wp2_with fail;exact⟨⟨k+1,by go_num,U,H5⟩,by simp[intOf];omega⟩
    ·rw[not_or,abw] at hc
     have hb:(!φ.packed.isEmpty)=true:=by simpa using hc.1
     have bN:(aG φ.packed k==aG t k)=true:=by simpa using hc.2
     have gI:((({ data:=φ.packed.toArray }:ByteArray).extract (k*256) ((k+1)*256)).toList==(({ data:=t.toArray }:ByteArray).extract (k*256) ((k+1)*256)).toList)=true:=by rw[BF.out,BF.out,btl,btl];exact bN
     have e8:(((k:Int)+1)*256)≤(φ.packed.length:Int):=by have:=hp.resolve_left hc.1;omega
     have r8:=r4 (by rw[not_or,abw];exact hc)
     have R8:=Hd r8;clear r4 r5 r8 hc;go_wp2_with fail;go_quiet (fail);go_wp2_with fail;refine⟨⟨k+1,by go_num,U,Hd (by rw[R8.out];exact(HK.out.q (Q.drewN _ _)).mono U)⟩,by simp[intOf];omega⟩
   ·obtain rfl:k=12:=U
    have bq:¬((12:Nat):Int)<12:=U;obtain⟨G,h1,h2,h3⟩:=HK.out;obtain⟨c0,c1,c2,c3,f0,f1,f2,f3⟩:=h1.box.c4;obtain⟨h4,h5⟩:=h1.put (FsG.moved h2 h3 xM.out) t;clear HK;go_wp2_with fail;go_ret;exact⟨rfl,FsR.seq h2 h3 ⟨G,⟨_,h4⟩,fun k hk=>.inl hk,h5⟩⟩
end
section
open Go.RowKit
theorem FsR.k{w w':World}{F:Nat→Prop}{fb sb b:Nat}{φ:FsL}{K:Nat}(h:FsR w w' F fb sb b φ K):∃v,FsK w w' F fb sb b φ K v:=by
 obtain⟨G,⟨v,h1⟩,h2,h3⟩:=h;exact⟨v,G,h1,h2,h3⟩
theorem FsK.put{w w':World}{F:Nat→Prop}{fb sb b:Nat}{φ:FsL}{K:Nat}{v v':Value}{l:List ax}(h:FsK w w' F fb sb b φ K v)(hv:ci (fun k=>¬own F fb k) w v' l)(s:Bytes):
  FsR w ((w'.setCell ⟨fb,2,none⟩ v').setCell ⟨fb,3,none⟩ (ah s)) F fb sb b ⟨φ.st,l,s⟩ K:=by
 obtain⟨G,h1,h2,h3⟩:=h;obtain⟨h4,h5⟩:=h1.put (FsG.moved h2 h3 hv) s;exact FsR.seq h2 h3 ⟨G,⟨_,h4⟩,fun k hk=>.inl hk,h5⟩
theorem FsK.frozen{w w':World}{F:Nat→Prop}{fb sb b:Nat}{φ:FsL}{K:Nat}{v:Value}(h:FsK w w' F fb sb b φ K v):w'.frozen? ⟨fb,2,none⟩=false∧w'.frozen? ⟨fb,3,none⟩=false:=by
 obtain⟨G,h1,_⟩:=h;exact⟨h1.box.frozen 2,h1.box.frozen 3⟩
theorem Gt(w:World)(F:Nat→Prop)(fb sb b:Nat)(φ ψ:FsL)(K K1:Nat)(v:Value)(r:StL→TxR)(g:FuncId)(x:Value)(h:FsG w F fb sb b φ K v)(hK:K≤K1)
  (eg:∀(args:Array Value) (w:World),(callFunc g args).run prog w=.ok (.enter g args) w)
  (hψ:ψ.st=(r φ.st.begin.1).1∧((r φ.st.begin.1).2.1=0→ψ.l=(r φ.st.begin.1).2.2∧ψ.packed=bR (r φ.st.begin.1).2.2))
  (hn:φ.st.begin.2=0→iL ψ.st∧(ψ.st.state true=0→ψ.st.tx≠[]→KT ψ.st))
  (hw:φ.st.begin.2=0→∀W,FsK w W F fb sb b { φ with st:=φ.st.begin.1 } K v→Calls prog g #[x] W fun e w'=>e=.returned (.int .i64 (r φ.st.begin.1).2.1)∧FsR w w' F fb sb b ψ K1) :
  Calls prog 30 #[au fb,.func (.func g) #[x] #[]] w fun e w'=>e=.returned (.int .i64 (φ.cq r).2)∧FsR w w' F fb sb b (φ.cq r).1 K1:=by
 have kG:=h.files;have d1:φ.st.begin.2≠0→φ.cq r=({ φ with st:=φ.st.begin.1.abort },φ.st.begin.2):=fun e=>by unfold FsL.cq;rw[Φ e]
 have d2:φ.st.begin.2=0→(r φ.st.begin.1).2.1≠0→φ.cq r=({ φ with st:=(r φ.st.begin.1).1.abort },(r φ.st.begin.1).2.1):=fun e e2=>by unfold FsL.cq;rw[η (by simpa using e),Φ e2]
 have d3:φ.st.begin.2=0→(r φ.st.begin.1).2.1=0→(r φ.st.begin.1).1.bj.2≠0→φ.cq r=({ φ with st:=(r φ.st.begin.1).1.bj.1.abort },(r φ.st.begin.1).1.bj.2):=fun e e2 e3=>by unfold FsL.cq;rw[η (by simpa using e),η (by simpa using e2),Φ e3]
 have d4:φ.st.begin.2=0→(r φ.st.begin.1).2.1=0→(r φ.st.begin.1).1.bj.2=0→φ.cq r=(⟨(r φ.st.begin.1).1.bj.1,(r φ.st.begin.1).2.2,bR (r φ.st.begin.1).2.2⟩,0):=fun e e2 e3=>by unfold FsL.cq;rw[η (by simpa using e),η (by simpa using e2),η (by simpa using e3)]
 have SV:∀W:World,FsK w W F fb sb b φ K v→Calls prog 68 #[au sb] W fun e w'=>e=.returned (.int .i64 φ.st.begin.2)∧FsK w w' F fb sb b { φ with st:=φ.st.begin.1 } K v:=fun W q=>q.call (fun G hg=>WM W G sb b _ K hg)
 have uU:∀(χ:FsL) (u:Value) (W:World),FsK w W F fb sb b χ K1 u→Calls prog 70 #[au sb] W fun e w'=>e=.returned (.tuple #[])∧FsK w w' F fb sb b { χ with st:=χ.st.abort } K1 u:=fun χ u W q=>q.call (fun G hg=>(WT W G sb b _ K1 hg).mono fun e w' hx=>⟨hx.1,hx.2.1.mono (fun k hk=>.inl hk) (fun k hk=>hk.elim (hx.2.1.lt k) (fun hk=>hk.2)) (Ω _),hx.2.2⟩)
 have rO:φ.st.begin.2=0→∀(u:Value) (W:World),FsK w W F fb sb b ψ K1 u→Calls prog 69 #[au sb] W fun e w'=>e=.returned (.int .i64 (r φ.st.begin.1).1.bj.2)∧FsK w w' F fb sb b { ψ with st:=(r φ.st.begin.1).1.bj.1 } K1 u:=fun e u W q=>q.call (fun G hg=>by rw[←hψ.1];exact UQ W G sb b _ K1 hg (hn e).1 (hn e).2)
 have H0:=Hd (FsK.of h);obtain⟨c0,c1,c2,c3⟩:=H0.out.cells;generalize oW:r φ.st.begin.1=R at *;obtain⟨τ,er,ml⟩:=R;simp only[] at *;have HBE:=Hd SV;have Hf:=Hd uU;have Jz:=Hd rO;have HW:=Hd hw;have xM:=Hd kG;have D1:=Hd d1;have D2:=Hd d2;have D3:=Hd d3;have D4:=Hd d4;have HP:=Hd hψ;clear SV uU rO hw kG d1 d2 d3 d4 hψ hn h oW;obtain⟨la,lc,rfl⟩:∃(a:Option Addr) (c:Nat),v=.slice a φ.l.length c:=by obtain⟨a,c,e,_⟩:=xM.out.s.value;exact⟨a,c,e⟩
 generalize φ.st.begin=be at *;obtain⟨σ1,e0⟩:=be;simp only[] at *;go_enter func30,ntmps30;go_wp2_with fail;go_quiet (fail);have H1:=Hd (H0.out.q (Q.drewN w nq));generalize w.drewN nq=w0 at *;clear c0 c1 c2 c3;obtain⟨c0,c1,c2,c3⟩:=H1.out.cells;go_wp2_with fail;refine(HBE.out _ H1.out).mono ?_;rintro e w1 ⟨rfl,h1⟩;have H2:=Hd h1;clear h1 c0 c1 c2 c3 HBE;obtain⟨c0,c1,c2,c3⟩:=H2.out.cells;by_cases hb:e0=0
 ·subst hb
  go_wp2_with fail;refine(HW.out trivial _ H2.out).mono ?_;rintro e w3 ⟨rfl,h3⟩;obtain⟨u,h3⟩:=h3.k;have H3:=Hd h3;clear h3 c0 c1 c2 c3 HW;obtain⟨c0,c1,c2,c3⟩:=H3.out.cells;by_cases he:er=0
  ·subst he
   go_wp2_with fail;refine(Jz.out trivial _ _ H3.out).mono ?_;rintro e w4 ⟨rfl,h4⟩;by_cases hc:τ.bj.2=0
   ·have E:=Hd (D4.out trivial trivial hc)
    have H4:=Hd h4.r;have kX:=Hd (HP.out.2 trivial);rw[hc];clear h4 HP c0 c1 c2 c3;go_wp2_with fail;go_ret;rw[E.out];obtain⟨p1,p2⟩:=kX.out;refine⟨rfl,?_⟩;have:=H4.out;rwa [p1,p2] at this
   ·have E:=Hd (D3.out trivial trivial hc)
    clear H3 c0 c1 c2 c3;obtain⟨c0,c1,c2,c3⟩:=h4.cells;have H3:=Hd h4;clear h4;generalize τ.bj.2=ec at *;have he0:(ec==0)=false:=by simpa using hc
    go_wp2_with fail;refine(Hf.out { ψ with st:=τ.bj.1 } _ _ H3.out).mono ?_;rintro e w4 ⟨rfl,h4⟩;obtain⟨c0,c1,c2,c3⟩:=h4.cells;obtain⟨f2,f3⟩:=h4.frozen;have H5:=Hd (h4.put xM.out φ.packed);clear h4;go_wp2_with fail;go_ret;rw[E.out];exact⟨rfl,H5.out⟩
  ·have E:=Hd (D2.out trivial he)
   have he0:(er==0)=false:=by simpa using he
   have hp:=HP.out.1;have E2:=Hd hp;clear hp;go_wp2_with fail;refine(Hf.out ψ _ _ H3.out).mono ?_;rintro e w4 ⟨rfl,h4⟩;obtain⟨c0,c1,c2,c3⟩:=h4.cells;obtain⟨f2,f3⟩:=h4.frozen;have H5:=Hd (h4.put xM.out φ.packed);clear h4;go_wp2_with fail;go_ret;rw[E.out,←E2.out];exact⟨rfl,H5.out⟩
 ·have E:=Hd (D1.out hb)
  have he0:(e0==0)=false:=by simpa using hb
  have H3:=Hd (H2.out.mono hK);go_wp2_with fail;refine(Hf.out { φ with st:=σ1 } _ _ H3.out).mono ?_;rintro e w4 ⟨rfl,h4⟩;obtain⟨c0,c1,c2,c3⟩:=h4.cells;obtain⟨f2,f3⟩:=h4.frozen;have H5:=Hd (h4.put xM.out φ.packed);clear h4;go_wp2_with fail;go_ret;rw[E.out];exact⟨rfl,H5.out⟩
end
section
section
variable {KI:Nat} {φ:FsL} {σ:StL} {fr:List (List WrL)} {C:Nat→Bytes}
theorem eE.after(h:eE KI σ fr C)(p:Bytes)(l:List ax):cg KI (σ.dir p l).1 fr C:=by
 unfold StL.dir;cases hf:iA l with
 | false=>exact h.st
 | true =>
  have hr:=h.room;have vM:=h.few;have hlen:=J3 σ.n p (bR l);exact(tC (vL σ.n p (bR l)) h.st h.op U (fun x hx=>by
   obtain⟨i,hi,rfl⟩:=AZ hx;exact⟨SP _ _,by simp only;omega,h.on i hi,ni (kg hf) hi⟩)).2.1
theorem eE.code(h:eE KI σ fr C)(p:Bytes)(l:List ax):(σ.dir p l).2=if iA l then 0 else 9:=by
 unfold StL.dir;cases hf:iA l with
 | false=>rfl
 | true=>exact Gq h p (bR l) (kg hf)
theorem bz.J1(h:bz KI φ fr C)(ht:TxI KI fr C φ.st σ)(hs:σ.tx.length≤36)(hb:∀i,i<12→bit σ.ai (ak φ.st.n+i)=true):eE KI σ fr C :=
 ⟨ht.st,ht.op,hs,by rw[fq ht.j];exact h.good.room,by rw[fq ht.j];exact hb⟩
theorem bz.Fo(h:bz KI φ fr C):eE KI φ.st.begin.1 fr C:=by
 obtain⟨ht,h0,h1⟩:=h.start;refine h.J1 ht (by rw[h0];simp) (fun i hi=>?_)
 rw[h1];exact h.low _ U
theorem bz.alive(h:bz KI φ fr C):φ.st.dead=false:=h.st.inv.live
theorem bz.rise(h:bz KI φ fr C):φ.l.Pairwise fun a b=>a.name<b.name:=h.good.ok.rise
theorem bz.len(h:bz KI φ fr C):φ.l.length≤64:=h.good.ok.few
theorem bz.eJ(h:bz KI φ fr C):φ.packed.length=3072:=by rw[h.packed];exact kg h.good.fits
theorem Xr(h:bz KI φ fr C)(s:Bytes)(hs:iM s=true)(hn:isF φ.l s=false)(hm:φ.l.length<64):cN (ak φ.st.n+12) φ.st.n (jE φ.l ⟨s,false,0,[]⟩):=by
 have hp:=wh φ.l ⟨s,false,0,[]⟩;have ha:fD (⟨s,false,0,[]⟩::φ.l)=fD φ.l:=rfl;refine cN.gR (fun f hf=>?_) (EC h.good.ok.rise _ hn) hp (by rw[Θ];omega) (by rw[ha];exact h.good.ok.apart)
 rcases MA.1 hf with rfl|hf
 ·exact⟨hs,L0 _,L0 _,κ,(show(0:Nat)=cB 0 by decide)⟩
 ·exact h.good.ok.ok f hf
theorem DO(h:bz KI φ fr C)(i:Nat)(hi:i<φ.l.length):cN (ak φ.st.n+12) φ.st.n (φ.l.set i φ.l[i].sealed):=by
 have hp:=set_perm hi φ.l[i].sealed;have iq:=mZ hi;have ha:fD (φ.l[i].sealed::φ.l.eraseIdx i)=fD (φ.l[i]::φ.l.eraseIdx i):=rfl;refine cN.gR (fun f hf=>?_) (JZ h.good.ok.rise i hi φ.l[i].sealed rfl) hp (by have:=iq.length_eq;have:=h.good.ok.few;simp only[Θ] at *;omega) (by rw[ha];exact(jf iq).nodup_iff.1 h.good.ok.apart)
 rcases MA.1 hf with rfl|hf
 ·have:=h.good.ok.ok _ (LO hi)
  exact⟨this.name,this.size,this.few,this.ext,this.need⟩
 ·exact h.good.ok.ok f (Ts hf)
theorem zo{l:List ax}{s:Bytes}(h:isF l s=true):∃hk:aA l s<l.length,(l[aA l s]).name=s:=by
 unfold isF at h;cases hg:l[aA l s]? with
 | none=>simp[hg] at h
 | some f =>
  rw[hg] at h;obtain⟨hk,e⟩:=NX.1 hg;exact⟨hk,by rw[e];exact Re h⟩
theorem DV(φ:FsL)(s:Bytes)(hk:aA φ.l s<φ.l.length):φ.at9 s=φ.l[aA φ.l s]:=by
 unfold FsL.at9;rw[LR,LN hk];rfl
end
end
section
open Go.RowKit
def RdB(w:World)(rb:Nat)(s:Bytes):Prop:=Blk w rb 221 #[ah s,.bool false]
abbrev TR(rb:Nat)(w w':World):Prop:=ae (fun k=>k=rb) w w'
theorem TR.set{rb:Nat}{w w1:World}(q:Q w w1)(v:Value):TR rb w (w1.setCell ⟨rb,0,none⟩ v):=ae.setCell (own:=fun k=>k=rb) (a:=⟨rb,0,none⟩) (ae.br q) (.inl rfl) v
theorem Q8(w:World)(rb v most:Nat)(r s:Bytes)(hs:s=dN v++r)(h:RdB w rb s)(hv:v≤most)(hm:most<9223372036854775808)(hl:s.length≤1000000):
  Calls prog 157 #[au rb,.int .i64 (most:Nat)] w fun e w'=>e=.returned (.int .i64 (v:Nat))∧RdB w' rb r∧TR rb w w':=by
 have ht:=fun W=>Lm s v r W U ⟨U,hs⟩
 have hb:=fun (W:World) (q:Q w W)=>Blk.stays h q
 obtain⟨c0,c1,f0,f1⟩:=Blk.c2 h;have hw:IntKind.u64.wrap (most:Int)=(most:Int):=by simp[IntKind.wrap,IntKind.bits,IntKind.signed];omega
 have gD:IntKind.i64.wrap (v:Int)=(v:Int):=IntWalk.i64_in _ U;have hg:¬(v:Int)>(most:Int):=U;have HT:=Hd ht;have HB:=Hd hb;clear ht hb h hs hv;go_enter func157,ntmps157;go_wp2_with fail;refine(HT.out _).mono ?_;rintro e w1 ⟨rfl,q⟩;have Q1:=Hd q;have hb1:=HB.out _ q;obtain⟨c0,c1,f0,f1⟩:=Blk.c2 hb1;have Bl:=Hd hb1;clear q hb1;go_wp2_with fail;go_ret;exact⟨rfl,Bl.out.set 0 _,TR.set Q1.out _⟩
structure RFS (w wi:World) (rb:Nat) (s:Bytes) (cs:Array Value):Prop where
 rd:RdB wi rb s
 fb:Blk wi (w.heap.size+1) 48 cs
 rs:Blk wi w.heap.size 48 #[ah [],.bool false,.int .i64 0,.slice none 0 0]
 t:TR rb w wi
 lt:rb<w.heap.size
section
variable {w wi w':World} {rb:Nat} {s:Bytes} {cs:Array Value}
theorem RFS.q(h:RFS w wi rb s cs)(q:Q wi w'):RFS w w' rb s cs:=⟨h.rd.stays q,h.fb.stays q,h.rs.stays q,h.t.trans (ae.br q),h.lt⟩
theorem RFS.size(h:RFS w wi rb s cs):w.heap.size+2≤wi.heap.size:=by have:=h.fb.lt;omega
theorem RFS.num(h:RFS w wi rb s cs)(v most:Nat)(r:Bytes)(hs:s=dN v++r)(hv:v≤most)(hm:most<9223372036854775808)(hl:s.length≤1000000):
  Calls prog 157 #[au rb,.int .i64 (most:Nat)] wi fun e w'=>e=.returned (.int .i64 (v:Nat))∧RFS w w' rb r cs∧TR rb wi w':=by
 refine(Q8 wi rb v most r s hs h.rd hv hm hl).mono ?_;rintro e w' ⟨rfl,h1,t⟩;have:=h.lt;exact⟨rfl,⟨h1,t.blk h.fb U,t.blk h.rs U,h.t.trans t,h.lt⟩,t⟩
theorem RFS.set(h:RFS w wi rb s cs)(j:Nat)(v:Value):RFS w (wi.setCell ⟨w.heap.size+1,j,none⟩ v) rb s (cs.setIfInBounds j v):=by
 have:=h.lt;exact⟨h.rd.other _ _ (by simp only;omega),h.fb.set j v,h.rs.other _ _ (by simp only;omega),ae.setCell (a:=⟨w.heap.size+1,j,none⟩) h.t (.inr (by simp only;omega)) v,h.lt⟩
theorem RFS.skip(h:RFS w wi rb s cs)(r:Bytes):RFS w (wi.setCell ⟨rb,0,none⟩ (ah r)) rb r cs:=by
 have:=h.lt;exact⟨Blk.set h.rd 0 (ah r),h.fb.other _ _ (by simp only;omega),h.rs.other _ _ (by simp only;omega),ae.setCell (own:=fun k=>k=rb) (a:=⟨rb,0,none⟩) h.t (.inl rfl) _,h.lt⟩
theorem RFS.oth(h:RFS w wi rb s cs){B:Nat}(hB:w.heap.size+2≤B)(j:Nat)(v:Value):RFS w (wi.setCell ⟨B,j,none⟩ v) rb s cs:=by
 have:=h.lt;exact⟨h.rd.other _ _ (by simp only;omega),h.fb.other _ _ (by simp only;omega),h.rs.other _ _ (by simp only;omega),ae.setCell (a:=⟨B,j,none⟩) h.t (.inr (by simp only;omega)) v,h.lt⟩
theorem RFS.grown(h:RFS w wi rb s cs){v:Value}{n:Nat}{xs:List Value}(ho:wi.ownsRow (w.heap.size+2) 87 2 v n xs)(hg:wi.grownBy w' v.ownBlock):RFS w w' rb s cs :=
 ⟨oI h.rd ho hg Z,oI h.fb ho hg Z,oI h.rs ho hg Z,h.t.grown (gT ho (show w.heap.size≤w.heap.size+2 by omega)) hg (Ω _),h.lt⟩
end
theorem DD(w:World)(rb:Nat)(f:ax)(r s:Bytes)(hs:s=Av f++r)(h:RdB w rb s)(hl:s.length≤100000)(bP:f.size≤2147483647)(vM:f.ext.length≤16)(hx:∀e∈f.ext,e.1≤4096∧e.2≤4096):
  Calls prog 158 #[au rb] w fun e w'=>(∃av,e=.returned (oN f av)∧w'.ownsRow w.heap.size 87 2 av f.ext.length (ext f.ext))∧RdB w' rb r∧TR rb w w':=by
 obtain⟨i0,hi,bY,bB,aW⟩:=info_parts zl;obtain⟨fn,fs,fz,fx⟩:=f;simp only at bP vM hx;rw[Kh] at hs;unfold lp at hs;simp only at hs;obtain⟨sn,kr⟩:∃sn:Nat,sn=if fs then 1 else 0:=⟨_,rfl⟩
 rw[←kr] at hs;simp only[Mm] at hs;obtain⟨s4,e4⟩:∃s4,s4=vO fx++r:=⟨_,rfl⟩;obtain⟨s3,e3⟩:∃s3,s3=dN fx.length++s4:=⟨_,rfl⟩;obtain⟨s2,e2⟩:∃s2,s2=dN fz++s3:=⟨_,rfl⟩;obtain⟨s1,e1⟩:∃s1,s1=dN sn++s2:=⟨_,rfl⟩;rw[←e4,←e3,←e2,←e1] at hs;have l0:s.length=(qR fn).length+s1.length:=by rw[hs,Δ]
 have l1:s1.length=(dN sn).length+s2.length:=by rw[e1,Δ]
 have l2:s2.length=(dN fz).length+s3.length:=by rw[e2,Δ]
 have l3:s3.length=(dN fx.length).length+s4.length:=by rw[e3,Δ]
 have lf:fn.length≤100000:=by
  have:(qR fn).length=(dN fn.length).length+fn.length:=by unfold qR;rw[Δ]
  omega
 have qN:=fun W=>U3 s fn s1 W U ⟨U,hs⟩
 have aC:RFS w ((w.alloc (.cells #[ah [],.bool false,.int .i64 0,.slice none 0 0] 48)).alloc (.cells #[ah [],.bool false,.int .i64 0,.slice none 0 0] 48)) rb s #[ah [],.bool false,.int .i64 0,.slice none 0 0]:=by
  have q1:=Q.alloc w (.cells #[ah [],.bool false,.int .i64 0,.slice none 0 0] 48);have q2:=Q.alloc (w.alloc (.cells #[ah [],.bool false,.int .i64 0,.slice none 0 0] 48)) (.cells #[ah [],.bool false,.int .i64 0,.slice none 0 0] 48);have b2:=Blk.new (w.alloc (.cells #[ah [],.bool false,.int .i64 0,.slice none 0 0] 48)) 48 #[ah [],.bool false,.int .i64 0,.slice none 0 0];rw[show(w.alloc (.cells #[ah [],.bool false,.int .i64 0,.slice none 0 0] 48)).heap.size=w.heap.size+1 by simp] at b2
  exact⟨h.stays (q1.trans q2),b2,(Blk.new w _ _).stays q2,ae.br (q1.trans q2),h.lt⟩
 have FD:=Hd qN;have aX:=Hd aC;have HE:=Hd (And.intro e1 (And.intro e2 (And.intro e3 e4)));have HL:=Hd (And.intro hl (And.intro l0 (And.intro l1 (And.intro l2 l3))));have HX:=Hd hx;obtain⟨c0,c1,_⟩:=Blk.c2 aC.rd;clear qN aC hs e1 e2 e3 e4 hl l0 l1 l2 l3 lf hx h;generalize hwz:(w.alloc (.cells #[ah [],.bool false,.int .i64 0,.slice none 0 0] 48)).alloc (.cells #[ah [],.bool false,.int .i64 0,.slice none 0 0] 48)=wz at *;go_enter func158,ntmps158;go_wp2_with fail;refine(FD.out _).mono ?_;rintro e w1 ⟨rfl,q1⟩;have h1:=aX.out.q q1;clear c0 c1 hwz;obtain⟨_,_,d0,d1⟩:=Blk.c2 h1.rd;obtain⟨a0,a1,a2,a3,g0,g1,g2,g3⟩:=h1.fb.c4;have h1s:=h1.set 0 (ah fn);obtain⟨z0,z1,y0,y1⟩:=Blk.c2 h1s.rd;have h2:=h1s.skip s1;obtain⟨p0,p1,p2,p3,_⟩:=h2.fb.c4;have qM:Calls prog 157 #[au rb,.int .i64 1] _ _:=(h2.num sn 1 s2 HE.out.1 (by rw[kr];split<;>decide) Z (by have:=HL.out;omega))
 have H2:=Hd qM;clear h1 h1s h2 q1 qM;go_wp2_with fail;refine H2.out.mono ?_;rintro e w2 ⟨rfl,h2,_⟩;obtain⟨a0,a1,a2,a3,g0,g1,g2,g3⟩:=h2.fb.c4;have rD:((sn:Int)==1)=fs:=by rw[kr];cases fs<;>rfl
 have h3:=h2.set 1 (.bool fs);have kV:Calls prog 157 #[au rb,.int .i64 2147483647] _ _:=(h3.num fz 2147483647 s3 HE.out.2.1 bP Z (by have:=HL.out;omega))
 have H3:=Hd kV;clear h2 h3 kV H2 kr;go_wp2_with fail;refine H3.out.mono ?_;rintro e w3 ⟨rfl,h3,_⟩;clear a0 a1 a2 a3 g0 g1 g2 g3 p0 p1 p2 p3 z0 z1 y0 y1 H3;obtain⟨a0,a1,a2,a3,g0,g1,g2,g3⟩:=h3.fb.c4;have h4:=h3.set 2 (.int .i64 (fz:Nat));have hn3:Calls prog 157 #[au rb,.int .i64 16] _ _:=(h4.num fx.length 16 s4 HE.out.2.2.1 vM Z (by have:=HL.out;omega))
 have H4:=Hd hn3;clear h3 h4 hn3;go_wp2_with fail;refine H4.out.mono ?_;rintro e w4 ⟨rfl,h4,_⟩;clear a0 a1 a2 a3 g0 g1 g2 g3 H4;have H5:=Hd (show RFS w w4 rb s4 #[ah fn,.bool fs,.int .i64 (fz:Nat),.slice none 0 0] from h4)
 clear h4;go_wp2_with fail;go_loopw [38] (fun i wr=>∃(m:Nat) (ua:Option Addr) (ucap:Nat) (sm:Bytes),i=.int .i64 (m:Nat)∧m≤fx.length∧sm.length≤100000∧Hid (sm=vO (fx.drop m)++r)∧Hid (RFS w wr rb sm #[ah fn,.bool fs,.int .i64 (fz:Nat),.slice ua m ucap])∧Hid (wr.ownsRow (w.heap.size+2) 87 2 (.slice ua m ucap) m (ext (fx.take m)))) (fun i _=>fx.length-(intOf i).toNat)
 case atStart=>exact⟨0,none,0,s4,rfl,L0 _,by have:=HL.out;omega,HE.out.2.2.2,H5,World.ownsRow_nil _ _ _ _⟩
 case round =>
  obtain⟨m,ua,ucap,sm,rfl,hm,CO,TI,HR,HO⟩:=hrel;obtain⟨wo,rfl⟩:∃wo:World,wo=wr:=⟨_,rfl⟩;by_cases ny:m<fx.length
  ·have Tz:(m:Int)<(fx.length:Int):=U
   obtain⟨x1,x2⟩:=HX.out _ (LO ny);have O8:sm=dN fx[m].1++(dN fx[m].2++(vO (fx.drop (m+1))++r)):=by
    rw[TI.out,PQ ny];unfold vO;rw[NO];simp only[Mm]
   have kH:ext (fx.take (m+1))=ext (fx.take m)++[.int .i64 (fx[m].1:Nat),.int .i64 (fx[m].2:Nat)]:=by rw[Mb ny,jP];rfl
   generalize fx[m]=e at *;obtain⟨ea,ec⟩:=e;simp only at x1 x2 O8 kH;obtain⟨sn2,aaR⟩:∃z,z=vO (fx.drop (m+1))++r:=⟨_,rfl⟩;obtain⟨sn1,YM⟩:∃z,z=dN ec++sn2:=⟨_,rfl⟩;rw[←aaR,←YM] at O8;have mG:sm.length=(dN ea).length+sn1.length:=by rw[O8,Δ]
   have fF:sn1.length=(dN ec).length+sn2.length:=by rw[YM,Δ]
   have bP:=HR.out.size;have qa:=Q.alloc wo (.cells #[.int .i64 0,.int .i64 0] 87);have ba:=Blk.new wo 87 #[.int .i64 0,.int .i64 0];have ha:=HR.out.q qa;have oa:=ownsRow_below HO.out qa;have zU:=fun g hg=>(HO.out.lt g hg).2
   have vw:=fun g hg=>(HO.out.lt g hg).1
   have ay:=HR.out.lt;have qM:Calls prog 157 #[au rb,.int .i64 4096] _ _:=ha.num ea 4096 sn1 O8 x1 Z U;have fZ:=Hd qM;have BA:=Hd ba;have OA:=Hd oa;have HRO:=Hd zU;have FK:=Hd vw;have HK:=Hd (And.intro ny (And.intro aaR (And.intro kH (And.intro mG fF))));have Ab:=Hd YM;clear qM ba oa qa ha zU vw ny O8 aaR YM kH mG fF hm;go_wp2_with fail;refine fZ.out.mono ?_;rintro e w5 ⟨rfl,h5,t5⟩;have b5:=t5.blk BA.out U;have o5:=t5.owns OA.out (fun g hg e=>by have:=FK.out g hg;omega)
   obtain⟨c0,c1,f0,f1⟩:=b5.c2;have b6:=b5.set 0 (.int .i64 (ea:Nat));have h6:=h5.oth bP 0 (.int .i64 (ea:Nat));have o6:=ownsRow_setCell_other (a:=⟨wo.heap.size,0,none⟩) o5 (fun e=>by have:=HRO.out _ e;simp only at this;omega) (.int .i64 (ea:Nat))
   have kV:Calls prog 157 #[au rb,.int .i64 4096] _ _:=h6.num ec 4096 sn2 Ab.out x2 Z (by have:=HK.out.2.2.2;omega)
   have HN2:=Hd kV;have B6:=Hd b6;have O6:=Hd o6;clear kV b5 b6 h5 h6 o5 o6 t5;go_wp2_with fail;refine HN2.out.mono ?_;rintro e w7 ⟨rfl,h7,t7⟩;have b7:Blk w7 wo.heap.size 87 #[.int .i64 (ea:Nat),.int .i64 0]:=t7.blk B6.out U;have o7:=t7.owns O6.out (fun g hg e=>by have:=FK.out g hg;omega)
   clear c0 c1 f0 f1;obtain⟨c0,c1,f0,f1⟩:=b7.c2;have b8:Blk (w7.setCell ⟨wo.heap.size,1,none⟩ (.int .i64 (ec:Nat))) wo.heap.size 87 #[.int .i64 (ea:Nat),.int .i64 (ec:Nat)]:=b7.set 1 _;have h8:=h7.oth bP 1 (.int .i64 (ec:Nat));have o8:=ownsRow_setCell_other (a:=⟨wo.heap.size,1,none⟩) o7 (fun e=>by have:=HRO.out _ e;simp only at this;omega) (.int .i64 (ec:Nat))
   obtain⟨k0,k1,_,_⟩:=b8.c2;obtain⟨_,_,_,p3,_,_,_,_⟩:=h8.fb.c4;have q9:=Q.alloc (w7.setCell ⟨wo.heap.size,1,none⟩ (.int .i64 (ec:Nat))) (.cells #[.int .i64 (ea:Nat),.int .i64 (ec:Nat)] 87);have bX:=Sl.lit (w7.setCell ⟨wo.heap.size,1,none⟩ (.int .i64 (ec:Nat))) #[.int .i64 (ea:Nat),.int .i64 (ec:Nat)] 87 1 2 rfl;rw[bO] at bX;have H1:Hid (∀u∈(#[.int .i64 (ea:Nat),.int .i64 (ec:Nat)]:Array Value).toList,u.oneCell'=true):=Hd (by intro u hu;simp at hu;rcases hu with rfl|rfl<;>rfl)
   have H2:Hid (m+1≤maxLen):=Hd (by unfold maxLen;omega)
   have H3:Hid ((m+1)*16≤140737488355328):=Hd U;have h9:=h8.q q9;have o9:=ownsRow_below o8 q9;have H4:Hid (w.heap.size+2≤((w7.setCell ⟨wo.heap.size,1,none⟩ (.int .i64 (ec:Nat))).alloc (.cells #[.int .i64 (ea:Nat),.int .i64 (ec:Nat)] 87)).heap.size):=Hd h9.size;have H9:=Hd h9;have O9:=Hd o9;have xG:=Hd bX;clear b7 b8 h7 h8 o7 o8 q9 bX h9 o9 t7 B6 O6 BA OA fZ HN2;go_wp2_with (at_builtin;go_must (refine fM ((w7.setCell ⟨wo.heap.size,1,none⟩ (.int .i64 (ec:Nat))).alloc (.cells #[.int .i64 (ea:Nat),.int .i64 (ec:Nat)] 87)) ρ _ _ 46 ρ (w.heap.size+2) 87 i0 (.agg #[.int .i64 0,.int .i64 0]) 2 16 underlying46 hi bY bB aW rfl Z _ _ _ ρ O9.out _ 1 _ ρ xG.out H1.out H2.out H3.out H4.out ?_))
   intro v' w9 V6 ZO _;have RH:=H9.out.grown O9.out ZO;obtain⟨ua2,uc2,rfl,_⟩:=aY V6;obtain⟨_,_,_,p3,_,_,_,r3⟩:=RH.fb.c4;have ZP:RFS w (w9.setCell ⟨w.heap.size+1,3,none⟩ (.slice ua2 (m+1) uc2)) rb sn2 #[ah fn,.bool fs,.int .i64 (fz:Nat),.slice ua2 (m+1) uc2]:=RH.set 3 _;have o11:=ownsRow_setCell_other (a:=⟨w.heap.size+1,3,none⟩) V6 (fun e=>by have:=(V6.lt _ e).1;simp only at this;omega) (.slice ua2 (m+1) uc2)
   have H11:=Hd ZP;have O11:=Hd o11;clear RH ZP o11 V6 ZO;go_wp2_with fail;go_roundw;case rel=>exact⟨m+1,ua2,uc2,sn2,by go_num,HK.out.1,by have:=HK.out.2.2.2;omega,HK.out.2.1,H11,by rw[HK.out.2.2.1];exact O11.out⟩
   case measure=>have:=HK.out.1;simp[intOf];omega
  ·obtain rfl:m=fx.length:=U
   have hsr:sm=r:=by rw[TI.out,VV];rfl
   have ho:=HO.out;rw[M1] at ho;have hr:=HR.out;rw[hsr] at hr;obtain⟨b0,b1,b2,b3,_⟩:=hr.fb.c4;obtain⟨_,_,_,_,z0,z1,z2,z3⟩:=hr.rs.c4;have Ct:=Hd hr;have Ht:=Hd ho;clear hr ho hsr;go_wp2_with fail;obtain⟨k0,k1,k2,k3,kb⟩:=Ct.out.rs.r4 (ah fn) (.bool fs) (.int .i64 (fz:Nat)) (.slice ua fx.length ucap);have fF:=Ct.out.lt;refine bodyPost_ret (v:=oN ⟨fn,fs,fz,fx⟩ (.slice ua fx.length ucap)) (by simp[results,Tryz.results158,go_sem,k0,k1,k2,k3]) rfl ⟨⟨.slice ua fx.length ucap,rfl,?_⟩,?_,?_⟩
   ·have aU:∀j,(Value.slice ua fx.length ucap).ownBlock≠some (⟨w.heap.size,j,none⟩:Addr).block:=fun j e=>by have:=(Ht.out.lt _ e).1;simp only at this;omega
    exact gT (ownsRow_setCell_other (ownsRow_setCell_other (ownsRow_setCell_other (ownsRow_setCell_other Ht.out (aU 0) _) (aU 1) _) (aU 2) _) (aU 3) _) U
   ·have hn:rb≠w.heap.size:=U
    exact Blk.other (Blk.other (Blk.other (Blk.other Ct.out.rd _ _ hn) _ _ hn) _ _ hn) _ _ hn
   ·have hn:w.heap.size≤w.heap.size:=Ω _
    exact ae.setCell (a:=⟨w.heap.size,3,none⟩) (ae.setCell (a:=⟨w.heap.size,2,none⟩) (ae.setCell (a:=⟨w.heap.size,1,none⟩) (ae.setCell (a:=⟨w.heap.size,0,none⟩) Ct.out.t (.inr hn) _) (.inr hn) _) (.inr hn) _) (.inr hn) _
end
section
open Go.RowKit
structure UpS (w wi:World) (rb:Nat) (s:Bytes) (v:Value) (m:List ax):Prop where
 rd:RdB wi rb s
 q:Q w wi
 lo:w.heap.size≤rb
 rows:∃vs:List Value,vs.length=m.length∧wi.ownsRow (rb+1) 48 4 v m.length (dH vs m)∧∀(i:Nat) a f,vs[i]?=some a→m[i]?=some f→wi.ownsRow (rb+1) 87 2 a f.ext.length (ext f.ext)
section
variable {w wi w':World} {rb:Nat} {s:Bytes} {v:Value} {m:List ax}
theorem UpS.step(h:UpS w wi rb s v m)(q:Q wi w'):UpS w w' rb s v m:=by
 obtain⟨vs,h1,h2,h3⟩:=h.rows;exact⟨h.rd.stays q,h.q.trans q,h.lo,vs,h1,ownsRow_below h2 q,fun i a f ha hf=>ownsRow_below (h3 i a f ha hf) q⟩
theorem UpS.file(h:UpS w wi rb s v m)(f:ax)(r:Bytes)(hs:s=Av f++r)(hl:s.length≤100000)(bP:f.size≤2147483647)(vM:f.ext.length≤16)(hx:∀e∈f.ext,e.1≤4096∧e.2≤4096):
  Calls prog 158 #[au rb] wi fun e w'=>∃av,e=.returned (oN f av)∧UpS w w' rb r v m∧w'.ownsRow (rb+1) 87 2 av f.ext.length (ext f.ext):=by
 refine(DD wi rb f r s hs h.rd hl bP vM hx).mono ?_;rintro e w' ⟨⟨av,rfl,ho⟩,h1,t⟩;obtain⟨vs,h2,h3,h4⟩:=h.rows;have ay:=h.rd.lt;refine⟨av,rfl,⟨h1,t.below h.q h.q.size (fun k e=>by rw[e];exact h.lo),h.lo,vs,h2,t.owns h3 (fun g hg e=>by have:=(h3.lt g hg).1;omega),fun i a f ha hf=>?_⟩,gT ho U⟩
 have h5:=h4 i a f ha hf;exact t.owns h5 (fun g hg e=>by have:=(h5.lt g hg).1;omega)
theorem UpS.app(h:UpS w wi rb s v m){f:ax}{av v':Value}(ha:wi.ownsRow (rb+1) 87 2 av f.ext.length (ext f.ext)){vs:List Value}(Br:vs.length=m.length)(hv:wi.ownsRow (rb+1) 48 4 v m.length (dH vs m))(hr:∀(i:Nat) a f,vs[i]?=some a→m[i]?=some f→wi.ownsRow (rb+1) 87 2 a f.ext.length (ext f.ext))
  (ho:w'.ownsRow (rb+1) 48 4 v' (m.length+1) (dH vs m++dH [av] [f])) (hg:wi.grownBy w' v.ownBlock):UpS w w' rb s v' (m++[f]):=by
 refine⟨oI h.rd hv hg Z,Below.grown h.q hg h.q.size (fun j hj=>by have:=(hv.lt j hj).1;have:=h.lo;omega),h.lo,vs++[av],by rw[Δ,Δ,Br];rfl,?_,fun i a g h1 h2=>?_⟩
 ·rw[zO _ _ _ _ Br,Δ,PR];exact ho
 ·rw[List.getElem?_append] at h1 h2
  rw[Br] at h1;split at h1
  ·rename_i hi
   rw[Φ hi] at h2;exact KU (hr i a g h1 h2) hv hg Z
  ·rename_i hi
   rw[η hi] at h2;cases hz:i-m.length with
   | zero =>
    rw[hz] at h1 h2;simp only[We,M3] at h1 h2;subst h1;subst h2;exact KU ha hv hg Z
   | succ j=>rw[hz] at h1;simp at h1
end
theorem tK:(prog.info? 48).map (fun i=>(i.zero,i.size,i.bytes))=some (some (.agg #[ah [],.bool false,.int .i64 0,.slice none 0 0]),4,56):=by kernel_rfl
theorem UpS.val{w wi:World}{rb:Nat}{s:Bytes}{v:Value}{m:List ax}(h:UpS w wi rb s v m):∃a cap,v=.slice a m.length cap:=by
 obtain⟨vs,h1,h2,h3⟩:=h.rows;obtain⟨a,cap,e,_⟩:=aY h2;exact⟨a,cap,e⟩
theorem UpS.Kp{w wi:World}{rb:Nat}{s:Bytes}{v:Value}{m:List ax}(h:UpS w wi rb s v m):ci (fun k=>w.heap.size≤k) wi v m:=by
 obtain⟨vs,h1,h2,h3⟩:=h.rows;have:=h.lo;exact⟨vs,h1,(SlP.cx h2).mono (fun k hk _=>U) Z,fun i a f ha hf=>(SlP.cx (h3 i a f ha hf)).mono (fun k hk _=>U) Z⟩
theorem Xw(f:ax)(a:Value)(ha:∃p n c,a=.slice p n c):∀u∈dH [a] [f],u.oneCell'=true:=by
 obtain⟨p,n,c,rfl⟩:=ha;intro u hu;simp[dH] at hu;rcases hu with rfl|rfl|rfl|rfl<;>rfl
def oO(l:List ax)(k:Nat)(r:Bytes):Bytes:=(l.drop k).flatMap Av++r
theorem Lp(l:List ax)(k:Nat)(r:Bytes)(h:k<l.length):oO l k r=Av l[k]++oO l (k+1) r:=by
 unfold oO;rw[PQ h,NO,Mm]
theorem vt(l:List ax)(first n:Nat)(w:World)(hd:cN first n l)(hn:n≤4096)(hf:iA l=true):
  Calls prog 81 #[ah (bR l)] w fun e w'=>(∃v,e=.returned (.tuple #[v,.int .i64 0])∧ci (fun k=>w.heap.size≤k) w' v l)∧Q w w':=by
 obtain⟨i0,hi,bY,bB,aW⟩:=info_parts tK;have bW:=kg hf;have CO:=zm hd hn;have Tp:=hd.few;obtain⟨zs,jl⟩:∃z,z=bg (3072-(ir (je l)).length):=⟨_,rfl⟩;obtain⟨fx,xK⟩:∃z,z=aB (fU (je l)):=⟨_,rfl⟩;have kG:fx.length=4:=by rw[xK];exact aH _
 obtain⟨r0,Ec⟩:∃r,r=fx++zs:=⟨_,rfl⟩;have hp:bR l=[67,68,88,73]++(dN l.length++oO l 0 r0):=by
  unfold bR oO ir je;rw[QQ,Ec,xK,jl];unfold ir je;simp only[Mm]
 have hcut:=fun (W:World)=>Tryz.strings_CutPrefix ⟨(bR l).toArray⟩ ⟨#[67,68,88,73]⟩ W
 have nN:Lib.hasPrefix (bR l) [67,68,88,73]=true:=by rw[hp];simp[Lib.hasPrefix]
 have htp:Lib.trimPrefix (bR l) [67,68,88,73]=dN l.length++oO l 0 r0:=by
  unfold Lib.trimPrefix;rw[nN,Φ rfl,hp];rfl
 simp only[nN,htp] at hcut;obtain⟨s0,wO⟩:∃s,s=dN l.length++oO l 0 r0:=⟨_,rfl⟩;rw[←wO] at hcut;have uX:s0.length≤3072:=by have:=Pu List.length hp;rw[bW,Δ,←wO] at this;omega
 have nS:∀k,k≤l.length→(oO l k r0).length≤3072:=fun k hk=>by
  have h1:(oO l 0 r0).length≤3072:=by have:=Pu List.length wO;rw[Δ] at this;omega
  have h2:∀j,j≤l.length→(oO l j r0).length≤(oO l 0 r0).length:=fun j=>by
   induction j with
   | zero=>intro _;exact Ω _
   | succ j ih=>intro hj;have h3:=ih U;rw[Lp l j r0 U,Δ] at h3;omega
  exact LS (h2 k hk) h1
 have VI:=fun (W:World)=>Tryz.strings_Trim_one ⟨zs.toArray⟩ 0 Z W (by have:=Pu List.length jl;rw[fC] at this;show zs.length≤_;omega)
 have htz:Lib.trimB zs 0=[]:=by
  rw[←Lib.trimS_one,QO,jl];intro c hc;exact Mo.2 (ado hc)
 simp only[htz] at VI;have aC:=fun k hk=>Lp l k r0 hk
 have rD:oO l l.length r0=r0:=by unfold oO;rw[VV];rfl
 have zM:=fun (W:World) (v:Value) (h:eQ W v l)=>Ke v l 0 4096 W h (hd.wide (L0 _) hn) (Ω _)
 have iT:=fun (W:World) (v:Value) (h:eQ W v l)=>QV v l W h hd.few (zm hd hn)
 have gV:=QZ hd hn;have nU:=fun (W:World) (B:Nat) (hb:Blk W B 9 #[ah (je l)])=>MK (.slice (some ⟨B,0,none⟩) 1 1) [je l] W ⟨rfl,_,_,rfl,fun _=>⟨B,0,rfl,fun j u hj=>by rw[On];exact hb.cell j u (by simpa using hj)⟩⟩ κ (by simp;omega)
 simp only[To,aci,NF] at nU;have aaS:=fun (W:World)=>vY (fU (je l)) W (yA _)
 rw[←xK] at aaS;have ZQ:=fun (k:Nat) (hk:k<l.length)=>CO _ (LO hk)
 have aao:=Hd hcut;have HTL:=Hd nS;have HTR:=Hd VI;have aX:=Hd aC;have Mv:=Hd rD;have Mt:=Hd zM;have Ic:=Hd iT;have xZ:=Hd nU;have Si:=Hd aaS;have TI:=Hd ZQ;have CJ:=Hd (And.intro wO (And.intro uX (And.intro Ec kG)));clear hcut nS VI aC rD zM iT nU aaS ZQ wO uX hp nN htp htz jl xK gV CO hd hf Ec;generalize bR l=pk at *;generalize fU (je l)=cr at *;generalize je l=dl at *;go_enter func81,ntmps81;go_wp2_with fail;refine(aao.out _).mono ?_;rintro e w1 ⟨rfl,rfl⟩;have amH:(pk.length:Int)=3072:=U;go_wp2_with fail;have eH:RdB (w1.alloc (.cells #[ah s0,.bool false] 221)) w1.heap.size s0:=Blk.new _ _ _;have xQ:Calls prog 157 #[au w1.heap.size,.int .i64 64] _ _:=Q8 _ w1.heap.size l.length 64 (oO l 0 r0) s0 CJ.out.1 eH Tp Z (by have:=CJ.out.2.1;omega)
 refine xQ.mono ?_;rintro e w2 ⟨rfl,h2,t2⟩;have hu:UpS w1 w2 w1.heap.size (oO l 0 r0) (.slice none 0 0) (l.take 0):=by
  rw[R0];exact⟨h2,t2.below (Q.alloc _ _) (Q.alloc _ _).size (fun k e=>by rw[e];exact Ω _),Ω _,[],rfl,World.ownsRow_nil _ _ _ _,fun i a f ha=>by simp at ha⟩
 have HU:=Hd hu;clear h2 t2 hu eH xQ;go_wp2_with fail;go_loopw [7,26] (fun u i wr=>∃(k:Nat),i=.int .i64 (k:Nat)∧k≤l.length∧Hid (UpS w1 wr w1.heap.size (oO l k r0) u (l.take k))) (fun _ i _=>l.length-(intOf i).toNat)
 case atStart=>exact⟨0,rfl,L0 _,HU⟩
 case round =>
  obtain⟨k,rfl,hk,HR⟩:=hrel;obtain⟨wo,rfl⟩:∃wo:World,wo=wr:=⟨_,rfl⟩;obtain⟨ua,ucap,rfl⟩:=HR.out.val;rw[L4,RE hk] at *;by_cases ay:k<l.length
  ·have bq:(k:Int)<(l.length:Int):=U
   obtain⟨f1,f2,f3,f4⟩:=TI.out k ay;have hfc:Calls prog 158 #[au w1.heap.size] _ _:=HR.out.file l[k] (oO l (k+1) r0) (aX.out k ay) (by have:=HTL.out k hk;omega) f3 f2 f4
   have kH:l.take (k+1)=l.take k++[l[k]]:=Mb ay;have qz:(l.take k).length=k:=by rw[L4];omega
   have HFC:=Hd hfc;have HK:=Hd (And.intro ay (And.intro kH qz));clear hfc kH qz f1 f2 f3 f4;generalize Pe:l[k]=f at *;clear Pe;generalize l.take k=m at *;go_wp2_with fail;refine HFC.out.mono ?_;rintro e w3 ⟨av,rfl,h3,o3⟩;have ⟨pa,pc,wR,_⟩:=aY o3;obtain⟨vs,Br,zU,ug⟩:=(h3.step (Q.alloc w3 (.cells #[ah f.name,.bool f.sl,.int .i64 (f.size:Nat),av] 48))).rows;rw[HK.out.2.2] at zU;have oa:=ownsRow_below o3 (Q.alloc w3 (.cells #[ah f.name,.bool f.sl,.int .i64 (f.size:Nat),av] 48));have kZ:=h3.step (Q.alloc w3 (.cells #[ah f.name,.bool f.sl,.int .i64 (f.size:Nat),av] 48));have bX:=Sl.lit w3 #[ah f.name,.bool f.sl,.int .i64 (f.size:Nat),av] 48 1 4 rfl;have yJ:=Xw f av ⟨_,_,_,wR⟩;have xG:Hid (Sl (w3.alloc (.cells #[ah f.name,.bool f.sl,.int .i64 (f.size:Nat),av] 48)) (.slice (some ⟨w3.heap.size,0,none⟩) 1 1) 1 4 (dH [av] [f])):=Hd bX;have H1:=Hd yJ;have H2:Hid (k+1≤maxLen):=Hd (by unfold maxLen;omega)
   have H3:Hid ((k+1)*56≤140737488355328):=Hd U;have H4:Hid (w1.heap.size+1≤(w3.alloc (.cells #[ah f.name,.bool f.sl,.int .i64 (f.size:Nat),av] 48)).heap.size):=Hd (by have:=kZ.rd.lt;omega)
   have HRO:=Hd zU;have JD:=Hd (fun v' w' ho hg=>kZ.app (v':=v') (w':=w') oa Br (by rw[HK.out.2.2];exact zU) ug ho hg)
   subst wR;obtain⟨fn,fs,fz,fxx⟩:=f;clear h3 o3 ug oa kZ bX yJ zU Br;go_wp2_with (at_builtin;go_must (refine fM (w3.alloc (.cells #[ah fn,.bool fs,.int .i64 (fz:Nat),.slice pa fxx.length pc] 48)) ρ _ _ 44 ρ (w1.heap.size+1) 48 i0 (.agg #[ah [],.bool false,.int .i64 0,.slice none 0 0]) 4 56 underlying44 hi bY bB aW rfl Z _ _ _ ρ HRO.out _ 1 _ ρ xG.out H1.out H2.out H3.out H4.out ?_))
   intro v' w4 Cq lV _;have h5:=JD.out v' w4 (by rw[HK.out.2.2];exact Cq) lV
   have H5:=Hd h5;clear h5 Cq lV;go_wp2_with fail;go_roundw;case rel=>exact⟨k+1,by go_num,HK.out.1,by rw[HK.out.2.1];exact H5⟩
   case measure=>have:=HK.out.1;simp[intOf];omega
  ·obtain rfl:k=l.length:=U
   have hr:=HR.out;rw[Mv.out,M1] at hr;have LM:=hr.Kp;have sJ:({ data:=r0.toArray }:ByteArray).extract 4 r0.length=⟨zs.toArray⟩:=by rw[fI,CJ.out.2.2.1,abQ CJ.out.2.2.2]
   have mh:({ data:=r0.toArray }:ByteArray).extract 0 4=⟨fx.toArray⟩:=by rw[uD,CJ.out.2.2.1,SU CJ.out.2.2.2]
   have hx3:¬(r0.length:Int)<4:=by rw[CJ.out.2.2.1,Δ,CJ.out.2.2.2];omega
   have hx4:(4:Int)≤(r0.length:Int):=U;obtain⟨c0,c1,_⟩:=Blk.c2 hr.rd;have zM:=Mt.out wo _ LM.s;have pR:=hr.q;have aiF:=Hd zM;have LP:=Hd LM;have dF:=Hd pR;have iO:=Hd hr.rd;clear zM LM pR hr;go_wp2_with fail;refine aiF.out.mono ?_;rintro e w3 ⟨rfl,q3⟩;have c0:=aj q3 c0;have c1:=aj q3 c1;have Q3:=Hd q3;clear q3;go_wp2_with fail;refine(HTR.out _).mono ?_;rintro e w4 ⟨rfl,Fq⟩;have q4:Q wo w4:=by rcases Fq with rfl|rfl;exact Q3.out;exact Q3.out.trans (Q.drew _)
   have iT:=Ic.out w4 _ (LP.out.q q4).s;have aiG:=Hd iT;have Q4:=Hd q4;clear iT q4 Fq;go_wp2_with fail;refine aiG.out.mono ?_;rintro e w5 ⟨rfl,q5⟩;have Q5:=Hd (Q4.out.trans q5);have d0:=(Blk.c2 (Blk.stays iO.out Q5.out)).1;have KK:=Hd (Q.refl w5);clear q5;go_wp2_with fail
   (go_region_held3 (fun w'=>w'.cell? ⟨w1.heap.size,0,none⟩=some (ah r0))
    (first|exact d0|exact aI δ d0)
    (first
     | (go_at_call 161;with_reducible refine(xZ.out _ _ (by first|exact Blk.new _ _ _|exact(Blk.new _ _ _).stays (Q.drew _)|exact(Blk.new _ _ _).stays ((Q.drew _).trans (Q.drew _)))).mono ?_;rintro e w3 ⟨rfl,q3⟩;have s':Q w5 w3:=(by rw[←q3];repeat (first|with_reducible exact KK.out|with_reducible apply Qs.dr|with_reducible apply Qs.al));clear KK q3;have KK:=Hd s';clear s')
     | (go_at_call 160;with_reducible refine(Si.out _).mono ?_;rintro e w3 ⟨rfl,q3⟩;have s':Q w5 w3:=Q.trans ω q3;clear KK;have KK:=Hd s';clear s' q3)))
   all_goals
    go_wp2_with fail;go_returns;exact⟨⟨_,rfl,LP.out.q (Q5.out.trans KK.out)⟩,Below.trans dF.out (Below.mono (Q5.out.trans KK.out) dF.out.size)⟩
end
section
open Go.RowKit
theorem Xx(v:Value)(n:Nat)(xs:List Value)(w:World)(h:Sl w v n 4 xs)(h1:∀u∈xs,u.oneCell'=true)(hn:n≤5000):
  Calls prog 37 #[v] w fun e w'=>∃v',e=.returned v'∧w'.ownsRow w.heap.size 48 4 v' n xs∧Q w w':=by
 obtain⟨i0,hi,bY,bB,aW⟩:=info_parts tK;have lI:∃a cap,v=.slice a n cap∧(a=none→n=0):=by
  obtain⟨_,a,cap,rfl,hc⟩:=h;refine⟨a,cap,rfl,fun e=>?_⟩
  rcases TC n with h0|h0
  ·exact h0
  ·obtain⟨b,off,h2,_⟩:=hc h0
   rw[e] at h2;cases h2
 obtain⟨a,cap,rfl,hz⟩:=lI;have Ac:=h.1;have aU:=fun (W:World)=>Lib.run_eql_slice_nil (P:=prog) W 44 48 a n cap 0 0 underlying44
 have hq:=Q.alloc w (.cells #[] 48);have hs:=h.stays hq;have ho:=World.ownsRow_lit (e:=48) (size:=4) w #[] 0 (Ω _) Z κ;have h2:0+n≤maxLen:=by unfold maxLen;omega
 have h3:(0+n)*56≤140737488355328:=U;have HS:=Hd hs;have H1:=Hd h1;have HO:=Hd ho;have HQ:=Hd hq;have H2:=Hd h2;have H3:=Hd h3;clear h h1 hs ho hq h2 h3;go_enter func37,ntmps37;cases a with
 | none =>
  obtain rfl:=hz rfl;have:xs=[]:=NL (by simpa using Ac)
  subst this;simp only[Option.isNone] at aU;go_wp2_with (simp only[aU]);go_ret;exact⟨_,rfl,World.ownsRow_nil _ _ _ _,Q.refl _⟩
 | some a =>
  simp only[Option.isNone] at aU;go_wp2_with (first|simp only[aU]|(at_builtin;refine fM (w.alloc (.cells #[] 48)) ρ _ _ 44 ρ w.heap.size 48 i0 (.agg #[ah [],.bool false,.int .i64 0,.slice none 0 0]) 4 56 underlying44 hi bY bB aW rfl Z _ 0 [] ρ HO.out _ _ _ ρ HS.out H1.out H2.out H3.out HQ.out.size ?_))
  intro v' w' o' g' _;have T2:ae (fun k=>k=w.heap.size) (w.alloc (.cells #[] 48)) w':=⟨g'.os,g'.tape,g'.output,g'.size,fun k hk hn=>g'.block k hk (fun e=>hn (by simpa[Value.ownBlock] using e))⟩
  have Q2:=Hd (T2.below HQ.out HQ.out.size (fun k hk=>U))
  clear T2;have O2:=Hd o';clear o' g';go_wp2_with fail;go_ret;exact⟨_,rfl,O2.out,Q2.out⟩
theorem Xy(v:Value)(n:Nat)(xs:List Value)(w:World)(h:Sl w v n 2 xs)(h1:∀u∈xs,u.oneCell'=true)(hn:n≤5000):
  Calls prog 38 #[v] w fun e w'=>∃v',e=.returned v'∧w'.ownsRow w.heap.size 87 2 v' n xs∧Q w w':=by
 obtain⟨i0,hi,bY,bB,aW⟩:=info_parts zl;have lI:∃a cap,v=.slice a n cap∧(a=none→n=0):=by
  obtain⟨_,a,cap,rfl,hc⟩:=h;refine⟨a,cap,rfl,fun e=>?_⟩
  rcases TC n with h0|h0
  ·exact h0
  ·obtain⟨b,off,h2,_⟩:=hc h0
   rw[e] at h2;cases h2
 obtain⟨a,cap,rfl,hz⟩:=lI;have Ac:=h.1;have aU:=fun (W:World)=>Lib.run_eql_slice_nil (P:=prog) W 46 87 a n cap 0 0 underlying46
 have hq:=Q.alloc w (.cells #[] 87);have hs:=h.stays hq;have ho:=World.ownsRow_lit (e:=87) (size:=2) w #[] 0 (Ω _) Z κ;have h2:0+n≤maxLen:=by unfold maxLen;omega
 have h3:(0+n)*16≤140737488355328:=U;have HS:=Hd hs;have H1:=Hd h1;have HO:=Hd ho;have HQ:=Hd hq;have H2:=Hd h2;have H3:=Hd h3;clear h h1 hs ho hq h2 h3;go_enter func38,ntmps38;cases a with
 | none =>
  obtain rfl:=hz rfl;have:xs=[]:=NL (by simpa using Ac)
  subst this;simp only[Option.isNone] at aU;go_wp2_with (simp only[aU]);go_ret;exact⟨_,rfl,World.ownsRow_nil _ _ _ _,Q.refl _⟩
 | some a =>
  simp only[Option.isNone] at aU;go_wp2_with (first|simp only[aU]|(at_builtin;refine fM (w.alloc (.cells #[] 87)) ρ _ _ 46 ρ w.heap.size 87 i0 (.agg #[.int .i64 0,.int .i64 0]) 2 16 underlying46 hi bY bB aW rfl Z _ 0 [] ρ HO.out _ _ _ ρ HS.out H1.out H2.out H3.out HQ.out.size ?_))
  intro v' w' o' g' _;have T2:ae (fun k=>k=w.heap.size) (w.alloc (.cells #[] 87)) w':=⟨g'.os,g'.tape,g'.output,g'.size,fun k hk hn=>g'.block k hk (fun e=>hn (by simpa[Value.ownBlock] using e))⟩
  have Q2:=Hd (T2.below HQ.out HQ.out.size (fun k hk=>U))
  clear T2;have O2:=Hd o';clear o' g';go_wp2_with fail;go_ret;exact⟨_,rfl,O2.out,Q2.out⟩
end
end Go.Proofs.YtbkahhebmpehnaaGreatDoor
