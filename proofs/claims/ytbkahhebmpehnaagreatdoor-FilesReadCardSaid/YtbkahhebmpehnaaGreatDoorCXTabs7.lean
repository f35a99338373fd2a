/- Joined: Tabs7 to WState9 -/
import Derived.Test.YtbkahhebmpehnaaGreatDoorCXWRef8a
import Derived.Test.YtbkahhebmpehnaaGreatDoorRows
set_option linter.all false
set_option maxRecDepth 100000
set_option maxHeartbeats 8000000
namespace Go.Proofs.YtbkahhebmpehnaaGreatDoor
open Go.Proofs.Tryz
section
open Go.ChangeShapes Go.WideShapes Go.ChangeAt Go.RowKit
abbrev laidL:List (String×DataW Unit):=[("unicode/utf8.acceptRanges",Rows.laid_unicode_utf8_acceptRanges),("unicode/utf8.first",Rows.laid_unicode_utf8_first)]
end
section
open Go.RowKit
theorem ie.bh{F:Nat→Prop}{w w':World}{g:Nat}{l:List ax}(h:ie w g l)(t:ae F w w')(hg:¬F g):ie w' g l:=fun k hk=>⟨t.cell (h k hk).1 hg,t.cell (h k hk).2.1 hg,t.cell (h k hk).2.2 hg⟩
section
variable {P:Nat→Prop} {w0 w:World} {fb b:Nat} {φ:FsL} {K:Nat}
theorem FW.list(h:FW P w0 w fb b φ K)(hI:FOk φ)(hd:φ.st.dead=false):Calls prog 15 #[au fb] w fun e w'=>∃a cap,e=.returned (.slice a φ.l.length cap)∧Q w w'∧∃P':Nat→Prop,(∀k,P k→P' k)∧FW P' w0 w' fb b φ K∧(0<φ.l.length→∃g,a=some ⟨g,0,none⟩∧P' g∧ie w' g φ.l):=by
 obtain⟨F,sb,h1,h2,h3,⟨v,h4⟩,h5⟩:=h;obtain⟨_,KI,fr,C,hi,gM⟩:=hI.resolve_left (by rw[hd];simp)
 have bQ:=hi.good.ok;refine(vu w F fb sb b φ K v h4 (by have:=bQ.few;omega) (fun f hf=>by have:=(bQ.ok f hf).few;omega)).mono fun e w' hx=>?_
 obtain⟨a,cap,rfl,q,hc⟩:=hx;refine⟨a,cap,rfl,q,fun k=>P k∨w.heap.size≤k∧k<w'.heap.size,fun k hk=>.inl hk,⟨F,sb,h1,fun k hk hc=>hc.elim (h2 k hk) fun hc=>?_,fun k hk=>hk.elim (fun hk=>Ψ (h3 k hk) q.size) (fun hk=>hk.2),⟨v,h4.keep q⟩,h5.trans q⟩,fun hn=>?_⟩
 ·have:=h4.fi k hk;omega
 ·obtain⟨g,e1,e2,e3,e4⟩:=hc hn
  exact⟨g,e1,.inr ⟨e2,e3⟩,e4⟩
theorem FW.whole{k n:Nat}{C:Nat→Bytes}(h:FW P w0 w fb b φ K)(hg:cS k n φ C)(hk:k≤1000000):Calls prog 16 #[au fb] w fun e w'=>e=.returned (.bool true)∧Q w w':=by
 obtain⟨F,sb,h1,h2,h3,⟨v,h4⟩,h5⟩:=h;obtain⟨⟨fr,hi⟩,_⟩:=hg;exact aan w F fb sb b φ K v h4 hi U
theorem WW.count{wb:Nat}(h:WW w0 w wb fb b φ K)(hI:FOk φ)(hd:φ.st.dead=false):Calls prog 15 #[au fb] w fun e w'=>∃a cap,e=.returned (.slice a φ.l.length cap)∧WW w0 w' wb fb b φ K :=
 (h.1.list hI hd).mono fun e w' hx=>by
  obtain⟨a,cap,rfl,q,_⟩:=hx
  exact⟨a,cap,rfl,h.keep q⟩
theorem FW.sub{P':Nat→Prop}(h:FW P' w0 w fb b φ K)(hp:∀k,P k→P' k):FW P w0 w fb b φ K:=by
 obtain⟨F,sb,h1,h2,h3,h4,h5⟩:=h;exact⟨F,sb,h1,fun k hk hc=>h2 k hk (hp k hc),fun k hk=>h3 k (hp k hk),h4,h5⟩
end
theorem aag(C:Nat→Bytes)(l:List ax)(k:Nat)(h:k<l.length):aac C (l.take (k+1))=aac C (l.take k)++l[k].name++[47]++(if l[k].sl then [33] else [])++cont C l[k]++[47]:=by
 unfold aac;rw[Mb h,Sf];simp
theorem cS.Lk{k n:Nat}{φ:FsL}{C:Nat→Bytes}(h:cS k n φ C)(j:Nat):(aac C (φ.l.take j)).length≤3000000000*j:=by
 obtain⟨⟨fr,hi⟩,_⟩:=h;induction j with
 | zero=>simp[aac]
 | succ j ih =>
  by_cases hj:j<φ.l.length
  ·have h1:=hi.good.ok.ok _ (LO hj)
   have h2:=hi.px (LO hj);have h3:φ.l[j].name.length≤24:=(Re h1.name).2.1;have h4:=h1.size;rw[aag C _ j hj];simp only[Δ,Θ,Nm];split<;>simp only[Θ,Nm]<;>omega
  ·rw[Mp U] at ih ⊢;omega
theorem State9_any{P:Nat→Prop}{w0 w:World}{fb b:Nat}{φ:FsL}{K k n:Nat}{C:Nat→Bytes}(h:FW P w0 w fb b φ K)(hg:cS k n φ C)(hk:k≤1000000)(hK:K≤100000000000000000):
  Calls prog 20 #[au fb] w fun e w'=>e=.returned (ah (aac C φ.l))∧FW P w0 w' fb b φ (K+200000000000)∧ae (fun k=>¬P k) w w':=by
 have hI:=hg.ok hk;obtain⟨⟨fr,hi⟩,_⟩:=id hg;have hli:=h.list hI hi.live;have hlen:φ.l.length≤64:=hi.good.ok.few;have dz:∀(P':Nat→Prop) (j:Nat) (hj:j<φ.l.length) (wo W:World),FW P' w0 wo fb b φ (K+3000000000*j)→Q wo W→Calls prog 14 #[au fb,ah φ.l[j].name,.int .i64 0,.int .i64 (φ.l[j].size:Nat)] W fun e w'=>e=.returned (.tuple #[ah (cont C φ.l[j]),.int .i64 0])∧FW P' w0 w' fb b φ (K+3000000000*(j+1))∧ae (fun k=>¬P' k) wo w':=fun P' j hj wo W hw q=>by
  have hm:=LO hj;have hc:=hi.px hm;refine((hw.keep q).cC hI U φ.l[j].name 0 (φ.l[j].size:Nat) Z (c:=0) (t:=cont C φ.l[j]) ?_).mono fun e w' hx=>⟨hx.1,hx.2.1.mono U,(ae.br q).trans hx.2.2⟩
  rw[Has.read hg ⟨_,hm,rfl,rfl,rfl⟩ 0 _ Z U U];rw[show(0:Int).toNat=0 from rfl,QQ,Mp U]
 have qN:=fun j (hj:j<φ.l.length)=>aag C φ.l j hj
 have tX:=fun j=>hg.Lk j
 have HLI:=Hd hli;have iO:=Hd dz;have FD:=Hd qN;have HTN:=Hd tX;clear hli dz qN tX hI hi hg h;generalize φ.l=l at *;go_enter func20,ntmps20;go_wp2_with fail;refine HLI.out.mono ?_;rintro e w1 ⟨a,cap,rfl,q1,P',u7,eO,cO⟩;have W1:=Hd eO;have C1:=Hd cO;have T1:=Hd (ae.br (own:=fun k=>¬P k) q1);have PP:=Hd u7
 clear eO cO q1 u7 HLI;go_wp2_with fail;go_loopw [3,5] (fun s i wr=>∃j:Nat,i=.int .i64 (j:Nat)∧j≤l.length∧s=ah (aac C (l.take j))∧Hid (FW P' w0 wr fb b φ (K+3000000000*j))∧Hid (ae (fun k=>¬P k) w wr)∧Hid (0<l.length→∃g,a=some ⟨g,0,none⟩∧P' g∧ie wr g l)) (fun _ i _=>l.length-(intOf i).toNat)
 case atStart=>exact⟨0,rfl,L0 _,rfl,W1,T1,C1⟩
 case round =>
  obtain⟨j,rfl,hj,rfl,HW,HT,HC⟩:=hrel;obtain⟨wo,rfl⟩:∃wo:World,wo=wr:=⟨_,rfl⟩;by_cases ay:j<l.length
  ·have bq:(j:Int)<(l.length:Int):=U
   have lT:(0:Int)≤(j:Int):=U;obtain⟨g,rfl,hpg,mQ⟩:=HC.out U;obtain⟨x0,x1,x2⟩:=mQ j ay;have dz:=fun W q=>iO.out P' j ay wo W HW.out q
   have qN:=FD.out j ay;have htm:=HTN.out (j+1);rw[qN] at htm;simp only[Δ,Θ,Nm] at htm;have CS:=Hd mQ;have RD:=Hd dz;have TO:=Hd qN;have PG:=Hd hpg;clear dz qN mQ HC iO FD HTN hpg;generalize cont C l[j]=ct at *;generalize l[j]=f at *;generalize aac C (l.take j)=pre at *;obtain⟨fn,fsl,fsz,fx⟩:=f;simp only[] at *;go_wp2_with fail;have KK:=Hd (Q.refl wo)
   (go_region_held3 (fun w'=>w'.cell? ⟨g,j*4,none⟩=some (ah fn)∧w'.cell? ⟨g,j*4+2,none⟩=some (.int .i64 (fsz:Nat)))
    (first|exact g0|exact⟨x0,x2⟩|exact two δ x0 x2)
    (first
     | (go_at_call 14;refine(RD.out _ ω).mono ?_;rintro e w3 ⟨rfl,h3,t3⟩;have z1:=t3.cell x1 (fun hn=>hn PG.out);have g0:=And.intro (t3.cell x0 (fun hn=>hn PG.out)) (t3.cell x2 (fun hn=>hn PG.out));have H3:=Hd h3;have T3:=Hd (HT.out.trans (t3.mono (fun k hk hp=>hk (PP.out k hp))));have C3:=Hd (ie.bh CS.out t3 (fun hn=>hn PG.out));clear h3 t3)))
   all_goals
    obtain⟨z0,z2⟩:=g0;clear x0 x1 x2 KK HW HT CS RD;cases fsl with
    | true =>
     go_wp2_with fail;go_roundw;case rel=>exact⟨j+1,by go_num,ay,by rw[TO.out];exact Pu Value.string (by simp only[bytes_append,PM]),H3,T3,Hd (fun _=>⟨g,rfl,PG.out,C3.out⟩)⟩
     case measure=>simp[intOf];omega
    | false =>
     go_wp2_with fail;go_roundw;case rel=>exact⟨j+1,by go_num,ay,by rw[TO.out];exact Pu Value.string (by simp only[bytes_append,M2,ON,NF]),H3,T3,Hd (fun _=>⟨g,rfl,PG.out,C3.out⟩)⟩
     case measure=>simp[intOf];omega
  ·obtain rfl:j=l.length:=U
   have bq:¬(l.length:Int)<(l.length:Int):=U;rw[M1];go_wp2_with fail;go_ret;exact⟨rfl,(HW.out.mono U).sub PP.out,HT.out⟩
end
end Go.Proofs.YtbkahhebmpehnaaGreatDoor
