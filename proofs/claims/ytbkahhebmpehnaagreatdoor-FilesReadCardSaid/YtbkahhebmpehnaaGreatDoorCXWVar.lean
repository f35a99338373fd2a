/- Joined: WVar to RDevM -/
import Derived.Test.YtbkahhebmpehnaaGreatDoorCXFilN
import Derived.Test.YtbkahhebmpehnaaGreatDoorCXBitA
set_option linter.all false
set_option maxRecDepth 100000
set_option maxHeartbeats 8000000
namespace Go.Proofs.YtbkahhebmpehnaaGreatDoor
open Go.Proofs.Tryz
section
open Go.RowKit
theorem my(s:Bytes)(k:Nat)(h:k<s.length):((({ data:=s.toArray }:ByteArray)[k]'h).toNat:Int)=(bA s k:Nat):=by
 unfold bA;rw[LR,LN h];rfl
theorem nB(s:Bytes)(k b:Nat)(hb:bA s k=b)(hk:k<10)(h9:k=9→b≤1):
  bits .or .u64 ((gZ s k:Nat):Int) (IntKind.u64.wrap (IntKind.u64.wrap (bits .and .u8 (b:Int) 127)*2 ^ (7*k)))=((gZ s (k+1):Nat):Int):=by
 have ay:b<256:=by rw[←hb];exact jW s k
 have h1:bits .and .u8 (b:Int) ((127:Nat):Int)=((b &&& 127:Nat):Int):=u8_and_nat b 127 ay Z;rw[show((127:Nat):Int)=127 from rfl,nat_mask7] at h1
 rw[h1];have hp:(128:Nat) ^ k=2 ^ (7*k):=by rw[show 128=2 ^ 7 from rfl,←Nat.pow_mul]
 have amF:(2:Nat) ^ (7*k)≤2 ^ 63:=W8 U U;have ER:=DC s k;rw[hp] at ER;have h2:b%128*2 ^ (7*k)<18446744073709551616:=by
  by_cases e:k=9
  ·subst e
   have:=h9 rfl;have h3:b%128≤1:=U;have:=W7 (2 ^ (7*9)) h3;have h4:(2:Nat) ^ (7*9)=9223372036854775808:=Z;omega
  ·have h3:(2:Nat) ^ (7*k)≤2 ^ 56:=W8 U U
   have h4:b%128≤127:=U;have:=Nat.mul_le_mul h4 h3;have h5:(127:Nat)*2 ^ 56<18446744073709551616:=Z;omega
 have w1:IntKind.u64.wrap ((b%128:Nat):Int)=((b%128:Nat):Int):=by
  simp only[IntKind.wrap,IntKind.bits,IntKind.signed];simp;omega
 have w2:IntKind.u64.wrap ((b%128*2 ^ (7*k):Nat):Int)=((b%128*2 ^ (7*k):Nat):Int):=by
  generalize b%128*2 ^ (7*k)=z at *;simp only[IntKind.wrap,IntKind.bits,IntKind.signed];simp;omega
 rw[w1,show(((b%128:Nat):Int)*2 ^ (7*k))=((b%128*2 ^ (7*k):Nat):Int) by simp,w2]
 have DY:(2:Nat) ^ 63=9223372036854775808:=Z;rw[u64_or_nat _ _ U h2];have hj:=nat_join (7*k) (b%128*2 ^ (7*k)) (gZ s k) (by rw[acr]) ER
 rw[Nat.or_comm,hj,gZ,hb,hp];congr 1;omega
theorem Lm(s:Bytes)(v:Nat)(r:Bytes)(w:World)(hs:s.length≤9223372036854775807)(h:fX s v r):
  Calls prog 224 #[.string ⟨s.toArray⟩] w fun e w'=>e=.returned (.tuple #[.int .u64 v,.string ⟨r.toArray⟩,.bool true])∧Q w w':=by
 obtain⟨k0,ad8,abY,h9⟩:=zN s v r h;obtain⟨rfl,rfl⟩:=fX.one h (Fb s k0 abY ad8 h9);clear h;obtain⟨e1,e2,e3,e4⟩:=abY;have E2:=Hd e2;have E4:=Hd e4;have H9:=Hd h9;clear e2 e4 h9;by_cases hl:s.length≤10;all_goals
  go_enter func224,ntmps224;go_wp2_with fail;go_loop [11,5,6,7] (fun i x _ _=>∃k:Nat,k≤k0∧i=.int .i64 k∧x=.int .u64 (gZ s k:Nat)) (fun i _ _ _=>10-(intOf i).toNat)
  case atStart=>exact⟨0,U,rfl,rfl⟩
  case round =>
   obtain⟨k,hk,rfl,rfl⟩:=hrel;have hb:=jW s k;have ER:=DC s k;have bX:k<s.length:=U;have eu:((({ data:=s.toArray }:ByteArray)[k]'bX).toNat:Int)=(bA s k:Nat):=my s k bX;by_cases ay:k<k0
   ·have bN:=E2.out k ay
    have hw:=nB s k (bA s k) rfl U (fun h=>U)
    have sJ:(127:Int)<(({ data:=s.toArray }:ByteArray)[k]'bX).toNat:=by rw[eu];omega
    rw[←eu] at hw;have HW:=Hd hw;clear hw eu;go_wp2_with fail;go_round;case rel=>exact⟨k+1,U,by go_num,int_eq (by rw[←HW.out])⟩
    case measure=>simp[intOf];omega
   ·have iN:k=k0:=U
    subst iN;have hw:=nB s k (bA s k) rfl ad8 H9.out;rw[←eu] at hw;have sJ:(({ data:=s.toArray }:ByteArray)[k]'bX).toNat≤(127:Int):=by rw[eu];omega
    have hx0:(0:Int)≤(({ data:=s.toArray }:ByteArray)[k]'bX).toNat:=U;have h9b:k=9→((({ data:=s.toArray }:ByteArray)[k]'bX).toNat:Int)≤1:=fun h=>by rw[eu];have:=H9.out h;omega
    have h0b:0<k→((((({ data:=s.toArray }:ByteArray)[k]'bX).toNat:Int))==0)=false:=fun h=>by
     rw[Γ,eu];have:=E4.out h;omega
    have afJ:s.drop (k+1)=(s.drop (k+1)):=rfl;have HW:=Hd hw;have H9B:=Hd h9b;have H0B:=Hd h0b;clear hw eu h9b h0b afJ;by_cases h9:k=9
    ·have q9:((k:Int)==9)=true:=by rw[MY];omega
     have q1:=H9B.out h9;have q0:=H0B.out U;have lT:0<k:=U;clear h9;go_wp2_with fail;have z1:IntKind.i64.wrap ((k:Int)+1)=(k:Int)+1:=IntWalk.i64_in _ U;have z2:(0:Int)≤(k:Int)+1:=U;have z3:((k:Int)+1).toNat=k+1:=U;go_quiet (fail);clear z1 z2 z3;go_wp2_with fail;go_ret3;exact⟨Dc HW.out (fI s (k+1)),Q.drewN _ _⟩
    ·have q9:((k:Int)==9)=false:=by rw[Γ];omega
     clear h9;by_cases lT:0<k
     ·have q0:=H0B.out lT
      go_wp2_with fail;have z1:IntKind.i64.wrap ((k:Int)+1)=(k:Int)+1:=IntWalk.i64_in _ U;have z2:(0:Int)≤(k:Int)+1:=U;have z3:((k:Int)+1).toNat=k+1:=U;go_quiet (fail);clear z1 z2 z3;go_wp2_with fail;go_ret3;exact⟨Dc HW.out (fI s (k+1)),Q.drewN _ _⟩
     ·have lT:k=0:=U
      subst lT;have ZN:=HW.out;rw[show((2:Int) ^ (7*0))=1 from rfl,Int.mul_one] at ZN
      have HW:=Hd ZN;clear ZN;go_wp2_with fail;have z1:IntKind.i64.wrap 1=1:=IntWalk.i64_in _ U;go_quiet (fail);clear z1;go_wp2_with fail;go_ret3;exact⟨Dc HW.out (fI s (0+1)),Q.drewN _ _⟩
theorem mL.var{s t r:Bytes}(h:mL s t r):fX s t.length (t++r):=by
 refine⟨h.1,?_⟩;rw[h.2,qR,Mm]
theorem U3(s t r:Bytes)(w:World)(hs:s.length≤9223372036854775807)(h:mL s t r):
  Calls prog 225 #[.string ⟨s.toArray⟩] w fun e w'=>e=.returned (.tuple #[.string ⟨t.toArray⟩,.string ⟨r.toArray⟩,.bool true])∧Q w w':=by
 have hv:=h.var;have hlen:s.length=(dN t.length).length+(t.length+r.length):=by rw[hv.2,Δ,Δ]
 have c:=Lm s t.length (t++r) w hs hv;obtain⟨rr,Cw⟩:∃rr,rr=t++r:=⟨_,rfl⟩;have vw:rr.length=t.length+r.length:=by rw[Cw,Δ]
 rw[←Cw] at c;have qp:t.length≤rr.length:=U;have amG:rr.length≤9223372036854775807:=U;have e1:rr.take t.length=t:=by rw[Cw,SU];rfl
 have e2:rr.drop t.length=r:=by rw[Cw,abQ];rfl
 generalize t.length=n at *;have C:=Hd c;have E1:=Hd e1;have E2:=Hd e2;clear c e1 e2 vw hlen hv Cw h;go_enter func225,ntmps225;go_wp2_with fail;refine C.out.mono ?_;rintro e w1 ⟨rfl,q1⟩;go_wp2_with fail;go_quiet (fail);go_wp2_with fail;go_ret3;exact⟨Uv (by rw[uD,E1.out]) (by rw[fI,E2.out]),q1.trans (Q.drewN _ _)⟩
theorem yH{F:Nat→Prop}{w0 w w':World}(h:∀k,F k→w0.heap.size≤k)(q:w0.heap.size≤w.heap.size):∀k,grow F w w' k→w0.heap.size≤k:=fun k hk=>hk.elim (h k) (fun hk=>LS q hk.1)
theorem ae.low{F:Nat→Prop}{w0 w w':World}(t:ae F w w')(h:∀k,F k→w0.heap.size≤k)(q:Q w0 w):Q w0 w':=t.below q q.size h
end
section
def st9(n:Nat):FsL:=ng (fE n).st.j.d []
theorem Kj(n:Nat)(h:128≤n)(hm:n≤4096):∃C,cS 0 n (fE n) C∧(fE n).l=[]:=by
 obtain⟨r1,r2,r3,r4,⟨fr,C,r5⟩,_⟩:=MS n h hm;exact⟨C,⟨⟨fr,r5.mono U⟩,r4,r3⟩,r2⟩
def ma(k n:Nat)(φ:FsL)(C:Nat→Bytes):Prop:=cS k n φ C∧φ.l=[]
def fe(k n:Nat)(φ:FsL)(C:Nat→Bytes)(s:Bytes)(b:Bool)(t:Bytes):Prop:=cS k n φ C∧∃f,φ.l=[f]∧f.name=s∧f.sl=b∧f.ext.length≤1∧cont C f=t
theorem aae(n:Nat)(h:128≤n)(hm:n≤4096):∃C,ma 1 n (st9 n) C:=by
 obtain⟨C,hg,hl⟩:=Kj n h hm;obtain⟨_,_,_,_,_,_,_,_,_,_,h1,_⟩:=DT hg Z;rw[hl] at h1;exact⟨C,h1,rfl⟩
theorem Kf(n:Nat)(h1:128≤n)(h2:n≤4096):∃C,cg 5 (bf n) [] C∧cg 5 (bf n).begin.1 [] C∧(bf n).begin.2=0∧eE 5 ((bf n).begin.1.alloc 12).1 [] C∧((bf n).begin.1.alloc 12).2.2=0∧((bf n).begin.1.alloc 12).1.n=n ∧
  (((bf n).begin.1.alloc 12).1.dir [] []).2=0∧(fE n).st=(((bf n).begin.1.alloc 12).1.dir [] []).1.bj.1:=by
 obtain⟨hz,L6,hi,kr,_,vk⟩:=BO n h1 h2;obtain⟨b0,ht,h0,kF⟩:=yG hi rfl;have uf:(bf n).begin.1.n=n:=(fq ht.j).trans kr;have ny:fO (bf n).begin.1:=by unfold fO;rw[h0];simp
 have lK:ak n+12≤n:=by unfold ak aD;omega
 have lS:fK (bf n).begin.1.ai 12 (bf n).begin.1.n=some (ak n):=by
  rw[kF,vk,uf];exact Ce _ _ _ _ Z lK (fun i hi=>by rw[tJ n h1 h2];exact MM hi) (fun i hi _=>by rw[tJ n h1 h2];exact Mz U)
 have jy:=AY ht.st ht.op ny 12 Z;rw[lS] at jy;obtain⟨a1,a2,a3,a4⟩:=jy;obtain⟨t0,t1,t2,t3,t4,t5⟩:=yF ht.st ht.op ny (ak n) 12 true a2 a3;have tX:((bf n).begin.1.bh (ak n) 12 true).1.n=n:=(fq t4).trans uf;have a1':(bf n).begin.1.alloc 12=(((bf n).begin.1.bh (ak n) 12 true).1,(ak n:Int),0):=a1;have hs:eE 5 ((bf n).begin.1.alloc 12).1 [] (bT (fun _=>ag) (bE n)):=by
  rw[a1'];exact⟨t2,t3,LS (qY t2 t5) Z,by rw[tX];exact lK,fun i hi=>by rw[tX,t1,Φ U]⟩
 have hc:(((bf n).begin.1.alloc 12).1.dir [] []).2=0:=by
  unfold StL.dir;rw[Φ qZ];exact Gq hs _ _ (kg qZ)
 refine⟨_,hi,ht.st,b0,hs,by rw[a1'],by rw[a1'];exact tX,hc,?_⟩
 have aW:((bf n).begin.1.alloc 12).2.2=0:=by rw[a1']
 have hd:=(MS n h1 h2).1;unfold fE;unfold FsL.cq at hd ⊢;rw[η (by show ¬(bf n).begin.2≠0;rw[b0];simp)] at hd ⊢
 have hr:xw (φ0 n) (φ0 n).st.begin.1=qm (φ0 n) ((bf n).begin.1.alloc 12).1 []:=by show xw (φ0 n) (bf n).begin.1=_;unfold xw;rw[η (by rw[aW];decide)]
 rw[hr] at hd ⊢;rw[η (by show ¬(((bf n).begin.1.alloc 12).1.dir [] []).2≠0;rw[hc];simp)] at hd ⊢
 by_cases hx:(qm (φ0 n) ((bf n).begin.1.alloc 12).1 []).1.bj.2≠0
 ·rw[Φ hx] at hd;exact absurd hd hx
 ·rw[η hx];rfl
theorem LI{K:Nat}{φ:FsL}{fr:List (List WrL)}{C:Nat→Bytes}(h:bz K φ fr C)(hb:fD φ.l=[])(c:Nat)(hn:ak φ.st.n+12+c≤φ.st.n):¬NoRoom φ.st c:=by
 rintro⟨hc,e⟩;rw[Ce φ.st.ai (ak φ.st.n+12) φ.st.n c hc hn (fun i hi=>h.low i hi) (fun i h1 h2=>?_)] at e
 ·exact absurd e κ
 ·cases hx:bit φ.st.ai i with
  | false=>rfl
  | true =>
   rcases (h.eM i U h2).1 hx with h3|h3
   ·omega
   ·rw[hb] at h3;simp at h3
section
variable {k n:Nat} {φ:FsL} {C:Nat→Bytes} {s t:Bytes} {b:Bool}
theorem ma.create(h:ma k n φ C)(hk:k≤1000000)(hs:iM s=true):(φ.create s).2=0∧∃D,fe (k+1) n (φ.create s).1 D s false []:=by
 obtain⟨⟨⟨fr,hi⟩,hf,hn⟩,hl⟩:=h;have hx:isF φ.l s=false:=by rw[hl];rfl
 have hlen:s.length≤24:=(Re hs).2.1;have e:φ.create s=φ.cq (wu φ s):=by
  unfold FsL.create;rw[hi.live,η Z,η (by rw[hs];decide),hx,η Z,η (by rw[hl];simp)]
 have aeP:jE φ.l ⟨s,false,0,[]⟩=[⟨s,false,0,[]⟩]:=by rw[hl];rfl
 rw[e];rcases kw hi hf hn (La hi U s hs hx (by rw[hl];simp)) with ⟨r0,D,r1,r2,r3⟩|⟨r0,r1,r2,r3⟩
 ·exact⟨r0,D,r1,_,r2.trans aeP,rfl,rfl,L0 _,rfl⟩
 ·rw[aeP,Ba _ hlen (L0 _)] at r3;exact absurd r3 Z
theorem fe.has(h:fe k n φ C s b t):Has s b t φ C:=by
 obtain⟨_,f,hl,h1,h2,_,h3⟩:=h;exact⟨f,by rw[hl];exact Mo.2 rfl,h1,h2,h3⟩
theorem fe.at(h:fe k n φ C s b t):isF φ.l s=true∧aA φ.l s=0∧φ.dj s=0∧∃hp:0<φ.l.length,φ.at9 s=φ.l[0]∧φ.l[0].name=s∧φ.l[0].sl=b∧φ.l[0].ext.length≤1∧cont C φ.l[0]=t∧φ.l=[φ.l[0]]∧s.length≤24:=by
 obtain⟨e1,e2,e3,e4,e5⟩:=h.has.isF h.1;obtain⟨⟨⟨fr,hi⟩,_⟩,f,hl,h1,h2,h3,h4⟩:=h;obtain⟨hp,p1,p2,p3⟩:=hi.at e1;have h0:aA φ.l s=0:=by rw[hl] at hp;simp at hp;rw[hl];exact hp
 have hz:0<φ.l.length:=by rw[hl];simp
 have pF:φ.l[0]=f:=by simp only[hl];rfl
 have bQ:=(hi.good.ok.ok f (by rw[hl];exact Mo.2 rfl)).name
 have D8:φ.at9 s=φ.l[0]:=by rw[p1];simp only[h0]
 refine⟨e1,h0,e4,hz,D8,?_⟩;rw[pF];exact⟨h1,h2,h3,h4,hl,by rw[←h1];exact(Re bQ).2.1⟩
theorem fe.again(h:fe k n φ C s b t)(hs:iM s=true):φ.create s=(φ,11):=by
 obtain⟨e1,_⟩:=h.at;obtain⟨⟨⟨fr,hi⟩,_⟩,_⟩:=h;unfold FsL.create;rw[hi.live,η Z,η (by rw[hs];decide),e1,Φ rfl]
theorem fe.append(h:fe k n φ C s false [])(hk:k≤1000000)(d:Bytes)(hd:d.length≤6000)(hr:ak n+12+cB d.length≤n):(φ.append s d).2=0∧∃D,fe (k+1) n (φ.append s d).1 D s false d:=by
 obtain⟨e1,e2,e3,hp,e4,e5,e6,e7,e8,e9,e10⟩:=h.at;have hz:=(h.has.isF h.1).2.2.2.2;obtain⟨⟨⟨fr,hi⟩,hf,hn⟩,hx⟩:=h;have bP:φ.l[0].size=0:=by rw[←e4];exact hz
 have dZ:φ.l[0].bl.length=0:=by
  rw[(hi.good.ok.ok _ (LO hp)).need,bP];rfl
 have hall:fD φ.l=[]:=by
  rw[e9,gJ,adL.1 dZ];rfl
 by_cases rU:d=[]
 ·subst rU
  have e:φ.append s []=(φ,0):=by
   unfold FsL.append;rw[η (by rw[e3];simp),e4,η (by rw[e6];decide),η (by rw[bP];simp),Φ rfl]
  rw[e];exact⟨rfl,C,(show cS k n φ C from⟨⟨fr,hi⟩,hf,hn⟩).more,hx⟩
 ·have e:φ.append s d=φ.cq (oF φ 0 φ.l[0] d):=by
   unfold FsL.append;rw[η (by rw[e3];simp),e4,η (by rw[e6];decide),η (by rw[bP];omega),η rU,e2]
  rw[e];obtain⟨y,hy,hy2⟩:=EF hi U 0 hp d U (by rw[bP];omega)
  have lD:cB (φ.l[0].size+d.length)-φ.l[0].bl.length=cB d.length:=by rw[bP,dZ,On,adx]
  have ZG:¬NoRoom φ.st (cB d.length):=LI hi hall _ (by rw[hn];exact hr)
  rw[lD] at hy hy2;have kE:φ.l.set 0 (dW φ.l[0] d y)=[dW φ.l[0] d y]:=by
   generalize φ.l[0]=f at *;rw[e9];rfl
  have Ib:y.length≤1:=by
   rcases hy2 with hy2|hy2
   ·have hx0:φ.l[0].ext=[]:=by
     cases sH:φ.l[0].ext with
     | nil=>rfl
     | cons x l =>
      have:=(hi.good.ok.ok _ (LO hp)).ext x (by rw[sH];exact Mu ..)
      have hb:x.1∈φ.l[0].bl:=JY.2 ⟨x,by rw[sH];exact Mu ..,Ω _,U⟩
      rw[adL.1 dZ] at hb;simp at hb
    rw[hx0] at hy2;exact hy2
   ·exact absurd hy2 ZG
  rcases kw hi hf hn hy with ⟨r0,D,r1,r2,r3⟩|⟨r0,r1,r2,r3⟩
  ·exact⟨r0,D,r1,_,r2.trans kE,e5,e6,Ib,by rw[r3.2,e8];rfl⟩
  ·rw[kE,Ba _ (by rw[show(dW φ.l[0] d y).name=φ.l[0].name from rfl,e5];exact e10) Ib] at r3
   rcases r3 with r3|r3|r3
   ·exact absurd r3 Z
   ·omega
   ·exact absurd r3 ZG
theorem Ri{D:Nat→Bytes}{f:ax}(h:Same C D [f]):cont D f=cont C f:=h.cont (Mo.2 rfl)
theorem fe.seal(h:fe k n φ C s b t)(hk:k≤1000000):(φ.gd s).2=0∧∃D,fe (k+1) n (φ.gd s).1 D s true t:=by
 obtain⟨e1,e2,e3,hp,e4,e5,e6,e7,e8,e9,e10⟩:=h.at;obtain⟨⟨⟨fr,hi⟩,hf,hn⟩,_⟩:=h;have e:φ.gd s=φ.cq (Ca φ 0 φ.l[0]):=by unfold FsL.gd;rw[η (by rw[e3];simp),e4,e2]
 have hy:=QL hi U 0 hp;rw[e];generalize φ.l[0]=f at *;have kE:φ.l.set 0 f.sealed=[f.sealed]:=by rw[e9];rfl
 rw[kE] at hy;rcases kw hi hf hn hy with ⟨r0,D,r1,r2,r3⟩|⟨r0,r1,r2,r3⟩
 ·rw[e9] at r3
  exact⟨r0,D,r1,_,r2,e5,rfl,e7,by rw[←e8];exact Ri r3⟩
 ·rw[Ba f.sealed (by rw[show f.sealed.name=f.name from rfl,e5];exact e10) e7] at r3;exact absurd r3 Z
theorem fe.delete(h:fe k n φ C s b t)(hk:k≤1000000):(φ.delete s).2=0∧∃D,ma (k+1) n (φ.delete s).1 D:=by
 obtain⟨e1,e2,e3,hp,e4,e5,e6,e7,e8,e9,e10⟩:=h.at;obtain⟨⟨⟨fr,hi⟩,hf,hn⟩,_⟩:=h;have e:φ.delete s=φ.cq (rZ φ 0 φ.l[0]):=by unfold FsL.delete;rw[η (by rw[e3];simp),e4,e2]
 have hy:=Lb hi U 0 hp;rw[e];generalize φ.l[0]=f at *;have kE:φ.l.eraseIdx 0=[]:=by rw[e9];rfl
 rw[kE] at hy;rcases kw hi hf hn hy with ⟨r0,D,r1,r2,r3⟩|⟨r0,r1,r2,r3⟩
 ·exact⟨r0,D,r1,r2⟩
 ·rw[qZ] at r3;exact absurd r3 Z
theorem fe.rename(h:fe k n φ C s b t)(hk:k≤1000000)(u:Bytes)(hu:iM u=true)(aU:s≠u):(φ.rename s u).2=0∧∃D,fe (k+1) n (φ.rename s u).1 D u b t:=by
 obtain⟨e1,e2,e3,hp,e4,e5,e6,e7,e8,e9,e10⟩:=h.at;obtain⟨⟨⟨fr,hi⟩,hf,hn⟩,_⟩:=h;have e:φ.rename s u=φ.cq (r9 φ 0 φ.l[0] u):=by unfold FsL.rename;rw[η (by rw[e3];simp),η (by rw[hu];decide),η aU,e4,e2]
 have hy:=Lc hi U 0 hp u hu (by rw[e5];exact aU)
 have hlen:u.length≤24:=(Re hu).2.1;rw[e];generalize φ.l[0]=f at *;have kE:jE (eZ (φ.l.eraseIdx 0) u) (f.named u)=[f.named u]:=by rw[e9];rfl
 rw[kE] at hy;rcases kw hi hf hn hy with ⟨r0,D,r1,r2,r3⟩|⟨r0,r1,r2,r3⟩
 ·rw[e9] at r3
  exact⟨r0,D,r1,_,r2,rfl,e6,e7,by rw[←e8];exact Ri r3⟩
 ·rw[Ba (f.named u) hlen e7] at r3;exact absurd r3 Z
theorem fe.none(h:fe k n φ C s b t)(u v:Bytes)(aU:u≠s):φ.rename u v=(φ,10):=by
 obtain⟨⟨⟨fr,hi⟩,hf,hn⟩,f,hl,h1,_⟩:=h;have hx:isF φ.l u=false:=by
  cases hx:isF φ.l u with
  | false=>rfl
  | true =>
   obtain⟨g,hg,e⟩:=(IC hi.good.ok.rise u).1 hx;rw[hl] at hg;obtain rfl:=Mo.1 hg;exact absurd (e.symm.trans h1) aU
 unfold FsL.rename;rw[hi.find,hx,Φ Z];rfl
theorem fe.count(h:fe k n φ C s b t):φ.used=12+cB t.length∧φ.used+φ.free=n-ak n:=by
 have hz:=(h.has.isF h.1).2.2.2.2;obtain⟨e1,e2,e3,hp,e4,e5,e6,e7,e8,e9,e10⟩:=h.at;obtain⟨⟨⟨fr,hi⟩,hf,hn⟩,_⟩:=h;obtain⟨c1,c2⟩:=hi.count;rw[hn] at c2;refine⟨?_,c2⟩;rw[c1,←hz,e4];generalize φ.l[0]=f at *;rw[e9];rfl
theorem ma.count(h:ma k n φ C):φ.used=12∧φ.used+φ.free=n-ak n:=by
 obtain⟨⟨⟨fr,hi⟩,hf,hn⟩,hl⟩:=h;obtain⟨c1,c2⟩:=hi.count;rw[hn] at c2;exact⟨by rw[c1,hl];rfl,c2⟩
end
theorem cS.fok{k n:Nat}{φ:FsL}{C:Nat→Bytes}(h:cS k n φ C)(hk:k≤1000000):φ.st.dead=false∧∃KI fr C,bz KI φ fr C∧KI+4<18446744073709551616:=by
 obtain⟨⟨fr,hi⟩,_⟩:=h;exact⟨hi.live,_,fr,C,hi,U⟩
def aS:Bytes:=[97]
def bS:Bytes:=[98]
def xS:Bytes:=List.replicate 300 120
theorem wC{α β:Type}{x:α×β}{b:β}(h:x.2=b):x=(x.1,b):=by rw[←h]
theorem I1(n:Nat)(h:128≤n)(hm:n≤128):∃s1 s2 s3 s4 s5:FsL,∃C0 C1 C2 C3 C4 C5,cS 1 n (st9 n) C0∧cS 2 n s1 C1∧cS 3 n s2 C2∧cS 4 n s3 C3∧cS 5 n s4 C4∧cS 6 n s5 C5 ∧
  (st9 n).create aS=(s1,0)∧s1.create aS=(s1,11)∧s1.append aS xS=(s2,0)∧s2.cC aS 250 100=(List.replicate 50 120,0)∧s2.cC aS 300 1=([],0)∧s2.cC aS 301 1=([],2) ∧
  s2.gd aS=(s3,0)∧s3.append aS [120]=(s3,13)∧s3.rename aS bS=(s4,0)∧s4.rename aS [99]=(s4,10)∧s4.delete bS=(s5,0) ∧
  (st9 n).free=52∧(st9 n).used=12∧s2.free=50∧s5.free=52:=by
 obtain rfl:n=128:=U;have lK:ak 128=64:=Z;have hx:xS.length=300:=Nx;have hn:cB xS.length=2:=by rw[hx];decide
 obtain⟨C0,h0⟩:=aae 128 Z Z;obtain⟨a0,C1,h1⟩:=h0.create (s:=aS) Z Z;have a1:=h1.again Z;obtain⟨a2,C2,h2⟩:=h1.append Z xS (by rw[hx];decide) (by rw[lK,hn];decide)
 have r1:=h2.has.read h2.1 250 100 Z (by rw[hx];decide) Z
 have r2:=h2.has.read h2.1 300 1 Z (by rw[hx];decide) Z
 have r3:((st9 128).create aS).1.append aS xS |>.1.cC aS 301 1=([],2):=by
  obtain⟨_,_,_,e4,e5⟩:=h2.has.isF h2.1;unfold FsL.cC;rw[η (by rw[e4];simp),Φ (by rw[e5,hx];decide)]
 have mh:=hx;generalize xL:xS=xs at *;obtain⟨a3,C3,h3⟩:=h2.seal Z;have a4:=h3.has.pA h3.1 [120];obtain⟨a5,C4,h4⟩:=h3.rename Z bS Z Z;have a6:=h4.none aS [99] Z;obtain⟨a7,C5,h5⟩:=h4.delete Z;obtain⟨u0,f0⟩:=h0.count;obtain⟨u2,f2⟩:=h2.count;obtain⟨u5,f5⟩:=h5.count;rw[lK] at f0 f2 f5;refine⟨_,_,_,_,_,C0,C1,C2,C3,C4,C5,h0.1,h1.1,h2.1,h3.1,h4.1,h5.1,wC a0,a1,wC a2,?_,?_,r3,wC a3,a4,wC a5,a6,wC a7,U,u0,U,U⟩
 ·rw[r1,←xL];unfold xS;rw[acO,List.take_replicate];rfl
 ·rw[r2,←xL];unfold xS;rw[acO];rfl
end
section
open Go.RowKit
theorem xB(w:World):Calls prog 51 #[] w fun e w'=>e=.returned (ah ag)∧Q w w':=by
 obtain⟨i,hi,bY,bB,aW⟩:=info_parts ze;have km:=run_make (P:=prog) w 92 5 _ _ underlying92 hi bY .i64 .i64 256 256 U (XX _) (by rw[aW];omega) U
 have hb:=(cA.zeros w (256:Int).toNat 5).back (P:=prog) 92 9 5 (256:Int).toNat underlying92 underlying5 underlying9;rw[Nx] at hb;rw[show List.replicate (256:Int).toNat (0:UInt8)=ag from rfl] at hb
 rw[bB,abq,show(Value.int IntKind.u8 0).cells=#[.int .u8 0] from rfl] at km
 have hq:=Q.alloc w (.cells (madeCells #[.int .u8 0] (256:Int).toNat) 5);generalize ag=nl at *;generalize (256:Int).toNat=m at *;generalize w.alloc (.cells (madeCells #[.int .u8 0] m) 5)=w2 at *;have HQ:=Hd hq;clear hq bY bB aW;go_enter func51,ntmps51;go_wp2;go_ret;exact⟨rfl,HQ.out⟩
def Bools(w:World)(v:Value)(l:List Bool):Prop:=Sl w v l.length 1 (l.map .bool)
abbrev qo(vs:List Value)(l:List cL):List Value:=(vs.zip l).flatMap fun x=>[.int .i64 x.2.op,.int .i64 x.2.at_,.int .i64 x.2.n,ah x.2.name,ah x.2.tO,x.1,.int .u8 (x.2.byte.toNat:Nat)]
def lj(kv:Value)(a:cL):Value:=.agg #[.int .i64 a.op,.int .i64 a.at_,.int .i64 a.n,ah a.name,ah a.tO,kv,.int .u8 (a.byte.toNat:Nat)]
def Acts9(w:World)(v:Value)(l:List cL):Prop:=∃vs:List Value,vs.length=l.length∧Sl w v l.length 7 (qo vs l)∧∀(i:Nat) (a:Value) (b:cL),vs[i]?=some a→l[i]?=some b→Bools w a b.keep
structure cL.Wf (a:cL):Prop where
 op : -9223372036854775808≤a.op∧a.op≤9223372036854775807
 at_ : -9223372036854775808≤a.at_∧a.at_≤9223372036854775807
 n : -9223372036854775808≤a.n∧a.n≤9223372036854775807
 keep:a.keep.length≤9223372036854775807
 name:a.name.length≤9223372036854775807
 tO:a.tO.length≤9223372036854775807
def Acts9Wf(l:List cL):Prop:=l.length≤9223372036854775807∧∀a∈l,a.Wf
theorem Bools.stays{w w':World}{v:Value}{l:List Bool}(h:Bools w v l)(q:Q w w'):Bools w' v l:=Sl.stays h q
theorem Acts9.stays{w w':World}{v:Value}{l:List cL}(h:Acts9 w v l)(q:Q w w'):Acts9 w' v l:=by
 obtain⟨vs,h1,h2,h3⟩:=h;exact⟨vs,h1,h2.stays q,fun i a b ha hb=>(h3 i a b ha hb).stays q⟩
theorem xz(vs:List Value)(l:List cL)(hl:vs.length=l.length)(k:Nat)(h:k<l.length):(qo vs l)[k*7]?=some (.int .i64 l[k].op)∧(qo vs l)[k*7+1]?=some (.int .i64 l[k].at_)∧(qo vs l)[k*7+2]?=some (.int .i64 l[k].n)∧(qo vs l)[k*7+3]?=some (ah l[k].name)∧(qo vs l)[k*7+4]?=some (ah l[k].tO)∧(qo vs l)[k*7+5]?=some (vs[k]' U)∧(qo vs l)[k*7+6]?=some (.int .u8 (l[k].byte.toNat:Nat)):=by
 induction l generalizing vs k with
 | nil=>simp at h
 | cons d l ih =>
  cases vs with
  | nil=>simp at hl
  | cons v vs =>
   have e:qo (v::vs) (d::l)=.int .i64 d.op::.int .i64 d.at_::.int .i64 d.n::ah d.name::ah d.tO::v::.int .u8 (d.byte.toNat:Nat)::qo vs l:=by simp[qo]
   cases k with
   | zero=>rw[e];exact⟨rfl,rfl,rfl,rfl,rfl,rfl,rfl⟩
   | succ k =>
    have:=ih vs (by simpa using hl) k (by simpa using h)
    rw[e,show(k+1)*7=k*7+1+1+1+1+1+1+1 by omega]
    exact this
theorem Acts9.value{w:World}{v:Value}{l:List cL}(h:Acts9 w v l):∃a cap,v=.slice a l.length cap∧(0<l.length→∃b off,a=some ⟨b,off,none⟩ ∧
  ∀k (hk:k<l.length),∃kv,w.cell? ⟨b,off+k*7,none⟩=some (.int .i64 l[k].op)∧w.cell? ⟨b,off+k*7+1,none⟩=some (.int .i64 l[k].at_)∧w.cell? ⟨b,off+k*7+2,none⟩=some (.int .i64 l[k].n)∧w.cell? ⟨b,off+k*7+3,none⟩=some (ah l[k].name)∧w.cell? ⟨b,off+k*7+4,none⟩=some (ah l[k].tO)∧w.cell? ⟨b,off+k*7+5,none⟩=some kv∧w.cell? ⟨b,off+k*7+6,none⟩=some (.int .u8 (l[k].byte.toNat:Nat))∧Bools w kv l[k].keep):=by
 obtain⟨vs,hl,⟨_,a,cap,h2,h3⟩,h4⟩:=h;refine⟨a,cap,h2,fun hn=>?_⟩
 obtain⟨b,off,h5,h6⟩:=h3 hn;refine⟨b,off,h5,fun k hk=>?_⟩
 obtain⟨e0,e1,e2,e3,e4,e5,e6⟩:=xz vs l hl k hk;exact⟨_,h6 _ _ e0,h6 _ _ e1,h6 _ _ e2,h6 _ _ e3,h6 _ _ e4,h6 _ _ e5,h6 _ _ e6,h4 k _ _ (LN U) (LN hk)⟩
theorem Bools.len{w:World}{v:Value}{l:List Bool}(h:Bools w v l):∃a cap,v=.slice a l.length cap:=by
 obtain⟨_,a,cap,e,_⟩:=h;exact⟨a,cap,e⟩
def cL.small(a:cL):Bool:=decide (a.keep.length≤200)&&(decide (a.name.length≤100)&&decide (a.tO.length≤100))
def wD(l:List cL):Bool:=decide (l.length≤60)&&l.all cL.small
theorem XL(v:Value)(l:List cL)(w:World)(hv:Acts9 w v l)(hl:Acts9Wf l):
  Calls prog 7 #[v] w fun e w'=>e=.returned (.bool (wD l))∧w=w':=by
 obtain⟨a,cap,rfl,aP⟩:=hv.value;obtain⟨hn,hl⟩:=hl;have HC:=Hd aP;have HL:=Hd hl;clear hv aP hl;by_cases h80:l.length≤60
 ·have vk:wD l=l.all cL.small:=by unfold wD;rw[MM h80];rfl
  have Pq:=Hd vk;clear vk;have aiV:¬((60:Int)<(l.length:Int)):=U;go_enter func7,ntmps7;go_wp2_with fail;go_loop [3] (fun x=>∃k:Nat,x=.int .i64 (k:Nat)∧k≤l.length∧Hid (l.all cL.small=(l.drop k).all cL.small)) (fun x=>l.length-(intOf x).toNat)
  case atStart=>exact⟨0,rfl,U,rfl⟩
  case round =>
   obtain⟨k,rfl,hk,HK⟩:=hrel;by_cases ay:k<l.length
   ·obtain⟨b,off,rfl,hc⟩:=HC.out U
    obtain⟨kv,_,_,_,c3,c4,c5,_,hb⟩:=hc k ay;have TU:=HL.out _ (LO ay);have eO:=TU.keep;have gD:=TU.name;have zu:=TU.tO;have hall:l.all cL.small=(l[k].small&&(l.drop (k+1)).all cL.small):=by rw[HK.out,PQ ay,List.all_cons]
    have qL:(0:Int)≤(k:Int):=U;have qG:(k:Int)<(l.length:Int):=U;generalize l[k]=act at *;obtain⟨ka,kc,rfl⟩:=hb.len;clear hc hb TU;have CO:act.small=true↔act.keep.length≤200∧act.name.length≤100∧act.tO.length≤100:=by unfold cL.small;simp
    by_cases h3:act.keep.length≤200∧act.name.length≤100∧act.tO.length≤100
    ·have ig:l.all cL.small=(l.drop (k+1)).all cL.small:=by rw[hall,CO.2 h3];rfl
     have Bo:=Hd ig;clear ig hall CO;have h2i:¬((200:Int)<(act.keep.length:Int)):=U;have h3i:¬((100:Int)<(act.name.length:Int)):=U;have h4i:¬((100:Int)<(act.tO.length:Int)):=U;go_wp2_with fail;go_round;case rel=>exact⟨k+1,by go_num,U,Bo⟩
     case measure=>simp[intOf];omega
    ·have ig:l.all cL.small=false:=by
      rw[hall];cases hx:act.small with
      | false=>rfl
      | true=>exact absurd (CO.1 hx) h3
     have Bo:=Hd ig;clear ig hall CO;by_cases amT:act.keep.length≤200
     ·have h2i:¬((200:Int)<(act.keep.length:Int)):=U
      by_cases amU:act.name.length≤100
      ·have h3i:¬((100:Int)<(act.name.length:Int)):=U
       have h4i:(100:Int)<(act.tO.length:Int):=U;go_wp2_with fail;go_ret;exact⟨by rw[Pq.out,Bo.out];rfl,rfl⟩
      ·have h3i:(100:Int)<(act.name.length:Int):=U
       go_wp2_with fail;go_ret;exact⟨by rw[Pq.out,Bo.out];rfl,rfl⟩
     ·have h2i:(200:Int)<(act.keep.length:Int):=U
      go_wp2_with fail;go_ret;exact⟨by rw[Pq.out,Bo.out];rfl,rfl⟩
   ·have hje:k=l.length:=U
    subst hje;have ig:l.all cL.small=true:=by rw[HK.out,VV];rfl
    have Bo:=Hd ig;clear ig;go_wp2_with fail;go_ret;exact⟨by rw[Pq.out,Bo.out];rfl,rfl⟩
 ·have vk:wD l=false:=by unfold wD;rw[Mz h80];rfl
  have Pq:=Hd vk;clear vk;have aiV:(60:Int)<(l.length:Int):=U;go_enter func7,ntmps7;go_wp2_with fail;go_ret;exact⟨by rw[Pq.out];rfl,rfl⟩
theorem aad{l:List cL}(h:wD l=true):l.length≤60∧∀a∈l,a.keep.length≤200∧a.name.length≤100∧a.tO.length≤100:=by
 unfold wD at h;rw[acn,TX,abH] at h;exact⟨h.1,fun a ha=>by have:=h.2 a ha;unfold cL.small at this;simpa using this⟩
theorem ul(c:Int)(n:Nat)(h:c<0)(hn:0<n):((lC c n:Nat):Int)=(-(c+1))%(n:Int):=by
 unfold lC;rw[Φ h];rw[ZS,Z2 U]
theorem rK(c:Int)(n:Nat)(h:¬c<0)(hn:0<n):((lC c n:Nat):Int)=c%(n:Int):=by
 unfold lC;rw[η h];rw[ZS,Z2 U]
theorem Ch(c:Int)(n:Nat)(w:World)(c0 : -9223372036854775808≤c)(c1:c≤9223372036854775807)(hn:0<n)(hm:n≤1000000):
  Calls prog 10 #[.int .i64 c,.int .i64 (n:Nat)] w fun e w'=>e=.returned (.int .i64 (lC c n:Nat))∧w=w':=by
 have ay:=Ev c n hn;have hz:¬(n:Int)=0:=U;have aW:((n:Int)==0)=false:=by simp;omega
 by_cases h:c<0
 ·have e:=ul c n h hn
  have r1:IntKind.i64.wrap (c+1)=c+1:=IntWalk.i64_in _ U;have r2:IntKind.i64.wrap (-(c+1)) = -(c+1):=IntWalk.i64_in _ U;have hb:(-(c+1)).tmod (n:Int)=(-(c+1))%(n:Int):=W5 U;have r3:IntKind.i64.wrap ((-(c+1))%(n:Int))=(-(c+1))%(n:Int):=IntWalk.i64_in _ (by rw[←e];omega)
  have r4:IntKind.i64.wrap ((-(c+1)).tmod (n:Int))=(-(c+1))%(n:Int):=by rw[hb];exact r3
  rw[e];clear e;go_enter func10,ntmps10;go_wp2_with fail;go_ret;exact⟨by first|rfl|simp[r1,r2,r3,r4,hb],rfl⟩
 ·have e:=rK c n h hn
  have hb:c.tmod (n:Int)=c%(n:Int):=W5 U;have r3:IntKind.i64.wrap (c%(n:Int))=c%(n:Int):=IntWalk.i64_in _ (by rw[←e];omega)
  have r4:IntKind.i64.wrap (c.tmod (n:Int))=c%(n:Int):=by rw[hb];exact r3
  rw[e];clear e;go_enter func10,ntmps10;go_wp2_with fail;go_ret;exact⟨by first|rfl|simp[r3,r4,hb],rfl⟩
def yQ(c:UInt8)(n k:Nat):Bytes:=List.replicate k c++List.replicate (n-k) 0
theorem Gz(c:UInt8)(n k:Nat)(h:k≤n):(yQ c n k).length=n:=by simp[yQ];omega
theorem XM(c:UInt8)(n k:Nat)(h:k<n):(yQ c n k).set k c=yQ c n (k+1):=by
 unfold yQ;obtain⟨m,hm⟩:∃m,n-k=m+1:=⟨n-k-1,U⟩;rw[hm,aeg,show n-(k+1)=m by omega,ad9,Mm]
 rw[abB _ _ κ];simp
theorem qq(c:UInt8)(n:Nat):yQ c n n=List.replicate n c:=by unfold yQ;simp
theorem Ci(c:UInt8)(n:Nat)(w:World)(hn:n≤1000000):Calls prog 19 #[.int .u8 (c.toNat:Nat),.int .i64 (n:Nat)] w fun e w'=>e=.returned (ah (List.replicate n c))∧Q w w':=by
 obtain⟨i,hi,bY,bB,aW⟩:=info_parts ze;have km:=run_make (P:=prog) w 92 5 _ _ underlying92 hi bY .i64 .i64 (n:Int) (n:Int) U (XX _) (by rw[aW];omega) U
 rw[bB,abq,show(Value.int IntKind.u8 0).cells=#[.int .u8 0] from rfl] at km
 have Ec:cA (w.alloc (.cells (madeCells #[.int .u8 0] (n:Int).toNat) 5)) w.heap.size (yQ c n 0):=by
  have:=cA.zeros w (n:Int).toNat 5;rw[OK] at this ⊢;unfold yQ;rw[List.replicate_zero,N0];exact this
 have hq:=Q.alloc w (.cells (madeCells #[.int .u8 0] (n:Int).toNat) 5);rw[OK] at km Ec hq;generalize w.alloc (.cells (madeCells #[.int .u8 0] n) 5)=w2 at *;have HQ:=Hd hq;have HR:=Hd Ec;clear hq bY bB aW Ec;go_enter func19,ntmps19;go_wp2_with fail;go_loopw [6] (fun x wr=>∃k:Nat,x=.int .i64 (k:Nat)∧k≤n∧Hid (cA wr w.heap.size (yQ c n k))∧Hid (Q w wr)) (fun x _=>n-(intOf x).toNat)
 case atStart=>exact⟨0,rfl,U,HR,HQ⟩
 case round =>
  obtain⟨k,rfl,hk,HR,HQ⟩:=hrel;by_cases ay:k<n
  ·have bq:(k:Int)<(n:Int):=U
   have hf:=HR.out.frozen k (by rw[Gz c n k hk];exact ay)
   have hc:=HR.out.cell k (by rw[Gz c n k hk];exact ay)
   have aC:=HR.out.set k (c.toNat:Nat) c rfl;rw[XM c n k ay] at aC;have eG:=Qs.st HQ.out ⟨w.heap.size,k,none⟩ (.int .u8 (c.toNat:Nat)) (Ω _);have aX:=Hd aC;have bJ:=Hd eG;clear aC eG;go_wp2_with fail;go_roundw;case rel=>exact⟨k+1,by go_num,U,aX,bJ⟩
   case measure=>simp[intOf];omega
  ·have bq:¬(k:Int)<(n:Int):=U
   obtain rfl:k=n:=U;have VD:=HR.out.back (P:=prog) 92 9 5 k underlying92 underlying5 underlying9;rw[Gz c k k hk,qq] at VD;go_wp2_with fail;go_ret;exact⟨rfl,HQ.out⟩
theorem abf(ka:Option Addr)(kn kc:Nat)(a:cL)(w:World)(ha:a.Wf):
  Calls prog 12 #[lj (.slice ka kn kc) a] w fun e w'=>e=.returned (ah a.data)∧Q w w':=by
 have hp:=fun (W:World)=>Ch a.n 6003 W ha.n.1 ha.n.2 Z Z
 have ay:=Ev a.n 6003 Z;have Ed:=fun (W:World)=>Ci a.byte (lC a.n 6003) W U
 obtain⟨wa,dO⟩:∃wa,wa=w.alloc (.cells #[.int .i64 a.op,.int .i64 a.at_,.int .i64 a.n,ah a.name,ah a.tO,.slice ka kn kc,.int .u8 (a.byte.toNat:Nat)] 37):=⟨_,rfl⟩;have hq:Q w wa:=by rw[dO];exact Q.alloc _ _
 have bZ:Blk wa w.heap.size 37 #[.int .i64 a.op,.int .i64 a.at_,.int .i64 a.n,ah a.name,ah a.tO,.slice ka kn kc,.int .u8 (a.byte.toNat:Nat)]:=by rw[dO];exact Blk.new w _ _
 have d2:wa.cell? ⟨w.heap.size,2,none⟩=some (.int .i64 a.n):=bZ.cell 2 _ rfl;have d6:wa.cell? ⟨w.heap.size,6,none⟩=some (.int .u8 (a.byte.toNat:Nat)):=bZ.cell 6 _ rfl;have he:a.data=List.replicate (lC a.n 6003) a.byte:=rfl;rw[he];have HP:=Hd hp;have Wj:=Hd Ed;have HQ:=Hd hq;clear hp Ed hq ha bZ he;have e63:((6003:Nat):Int)=6003:=rfl;rw[e63] at HP;unfold lj;generalize lC a.n 6003=pz at *;go_enter func12,ntmps12;go_wp2_with fail;rw[←dO];clear dO;have KK:=Hd (Q.refl wa)
 (go_region_held3 (fun w'=>w'.cell? ⟨w.heap.size,2,none⟩=some (.int .i64 a.n)∧w'.cell? ⟨w.heap.size,6,none⟩=some (.int .u8 (a.byte.toNat:Nat)))
  (first|exact⟨d2,d6⟩|exact two (by repeat (first|with_reducible exact KK.out|with_reducible exact Q.refl _|with_reducible apply Qs.dr)) d2 d6)
  (first
   | (go_at_call 10;refine(HP.out _).mono ?_;rintro e w4 ⟨rfl,rfl⟩)
   | (go_at_call 19;refine(Wj.out _).mono ?_;rintro e w5 ⟨rfl,s'⟩;clear KK;have KK:=Hd ((Q.drew wa).trans s'))))
 all_goals
  go_wp2_with fail;go_ret;exact⟨rfl,HQ.out.trans KK.out⟩
end
section
open Go.RowKit
set_option maxRecDepth 20000 in
theorem ru(v:Nat)(w:World)(hv:v<4294967296):
  Calls prog 115 #[.int .u32 v] w fun e w'=>e=.returned (ah (aB v))∧Q w w':=by
 have k4:=Nu w (v%256) (v / 256%256) (v / 65536%256) (v / 16777216) U U U U (aB v) (by unfold aB;rw[show v / 16777216%256=v / 16777216 by omega])
 simp only[ZS,Int.natCast_ediv,ac6] at k4
 generalize aB v=r at *
 go_enter func115,ntmps115
 go_wp2_with fail
 go_ret
 exact⟨rfl,Q.alloc _ _⟩
theorem p7(s:Bytes)(j:Nat)(h:j<s.length):mJ (s.take (j+1))=lM 8 (mJ (s.take j) ^^^ s[j].toNat):=P5 [] s j h
set_option maxRecDepth 20000 in
theorem EJ(s:Bytes)(w:World)(hs:s.length≤9223372036854775807):
  Calls prog 116 #[ah s] w fun e w'=>e=.returned (.int .u32 (fU s:Nat))∧w=w':=by
 go_enter func116,ntmps116
 go_wp2_with fail
 go_loop [3,4,5] (fun c i _=>∃k:Nat,k≤s.length∧i=.int .i64 k∧c=.int .u32 (mJ (s.take k):Nat)) (fun _ i _=>s.length-(intOf i).toNat)
 case atStart=>exact⟨0,U,rfl,rfl⟩
 case round =>
  obtain⟨k,hk,rfl,rfl⟩:=hrel
  have nR:=yV (s.take k)
  by_cases ay:k<s.length
  ·have aC:=p7 s k ay
   have hx:(s[k]).toNat<256:=US _
   generalize hy:mJ (s.take k)=c at *
   have HY:=Hd hy;have aX:=Hd aC;clear hy aC
   go_wp2_with fail
   have Ac:c ^^^ (s[k]).toNat<4294967296:=abj (n:=32) nR U
   go_loop [5,3] (fun i d=>∃m:Nat,m≤8∧i=.int .i64 m∧d=.int .u32 (lM m (c ^^^ (s[k]).toNat):Nat)) (fun i _=>8-(intOf i).toNat)
   case atStart=>exact⟨0,U,rfl,int_eq (by
    rw[show((({ data:=List.toArray s }:ByteArray)[k]).toNat:Int)%4294967296=((s[k]).toNat:Int) from Int.emod_eq_of_lt U (by show((s[k]).toNat:Int)<_;omega)]
    exact u32_xor_nat c (s[k]).toNat nR U)⟩
   case round =>
    obtain⟨m,hm,rfl,rfl⟩:=hrel
    have nS:=Da m _ Ac
    by_cases iU:m<8
    ·have z8:lM (m+1) (c ^^^ (s[k]).toNat)=p9 (lM m (c ^^^ (s[k]).toNat)):=rfl
     generalize lM m (c ^^^ (s[k]).toNat)=d at *
     have VB:=Hd z8;clear z8
     by_cases YS:d%2=1
     ·have ht:p9 d=(d / 2) ^^^ 3988292384:=by unfold p9;rw[Φ YS]
      have mh:bits .xor .u32 (((d / 2:Nat):Int)) ((3988292384:Nat):Int)=((d / 2 ^^^ 3988292384:Nat):Int):=u32_xor_nat (d / 2) 3988292384 U Z
      have hoi:((d:Int)%2==1)=true:=by simp;omega
      have HT:=Hd ht;have HX2:=Hd mh
      clear ht mh YS
      go_wp2_with fail
      go_round
      case rel=>exact⟨m+1,U,by go_num,int_eq (by rw[VB.out,HT.out];exact HX2.out)⟩
      case measure=>simp[intOf];omega
     ·have ht:p9 d=d / 2:=by unfold p9;rw[η YS]
      have hoi:((d:Int)%2==1)=false:=by simp;omega
      have HT:=Hd ht
      clear ht YS
      go_wp2_with fail
      go_round
      case rel=>exact⟨m+1,U,by go_num,int_eq (by rw[VB.out,HT.out];rfl)⟩
      case measure=>simp[intOf];omega
    ·have Ze:m=8:=U
     subst Ze
     go_wp2_with fail
     go_round
     case rel=>exact⟨k+1,U,by go_num,by rw[aX.out]⟩
     case measure=>simp[intOf];omega
  ·have iN:k=s.length:=U
   have hx:=yV s
   subst iN
   rw[M1]
   generalize hc:mJ s=c at *
   have xZ:=Hd hc;clear hc
   go_wp2_with fail
   go_ret
   refine⟨o0 ?_,rfl⟩
   show bits BinOp.xor IntKind.u32 (c:Int) ((4294967295:Nat):Int)=_
   rw[u32_xor_nat _ _ hx Z]
   unfold fU
   rw[xZ.out]
end
section
open Go.RowKit
theorem XP{w:World}{base:Nat}{v:Value}{l:Bytes}(h:w.ownsRow base 5 1 v l.length (iD l)):
  (convert 92 9 v).run prog w=.ok (ah l) w:=by
 obtain⟨a,cap,rfl,hg⟩:=aY h;by_cases hl:l=[]
 ·subst hl
  rcases h.2 with ⟨hv,_⟩|⟨g,c,cur,hv,_⟩
  ·cases hv
   show(convert 92 9 (.slice none 0 0)).run prog w=_;rw[run_convert_bytes_string w 92 9 5 none 0 0 underlying92 underlying5 underlying9];rfl
  ·cases hv
   exact run_convert_bytes_back (P:=prog) w 92 9 5 ⟨g,0,none⟩ cap [] underlying92 underlying5 underlying9 (fun j hj=>by simp at hj)
 ·obtain⟨g,rfl⟩:=hg (UV.2 hl)
  refine run_convert_bytes_back (P:=prog) w 92 9 5 ⟨g,0,none⟩ cap l underlying92 underlying5 underlying9 (fun j hj=>?_)
  rw[oD,On,h.cellAt j U];simp[iD,Lib.byteCells,hj]
theorem GP:(prog.info? 5).map (fun i=>(i.zero,i.size,i.bytes))=some (some (.int .u8 0),1,1):=by kernel_rfl
theorem Jk(l:Bytes)(x:Nat)(hx:x<256):iD l++(#[Value.int .u8 (x:Int)]:Array Value).toList=iD (l++[UInt8.ofNat x]):=by
 rw[vG];simp[iD,Lib.byteCells];omega
theorem Rj(v:Nat)(w:World)(hv:v<18446744073709551616):
  Calls prog 247 #[.int .u64 v] w fun e w'=>e=.returned (ah (dN v))∧Q w w':=by
 obtain⟨i0,hi,bY,bB,aW⟩:=info_parts GP;go_enter func247,ntmps247;go_wp2_with fail;go_loopw [3,0] (fun bv x wr=>∃(y m:Nat) (l:Bytes),x=.int .u64 y∧y<18446744073709551616∧m≤10∧l.length+m≤10∧Hid (0<m∧y<128 ^ m)∧Hid (l++jC m y=dN v)∧Hid (wr.ownsRow w.heap.size 5 1 bv l.length (iD l))∧Hid (Q w wr)) (fun _ x _=>(intOf x).toNat)
 case atStart=>exact⟨v,10,[],rfl,hv,U,κ,⟨U,nf v hv⟩,rfl,World.ownsRow_nil _ _ _ _,Q.refl _⟩
 case round =>
  obtain⟨y,m,l,rfl,hy,hm,VZ,HM,HL,HO,HQ⟩:=hrel;obtain⟨wo,rfl⟩:∃wo:World,wo=wr:=⟨_,rfl⟩;obtain⟨JH,ZK⟩:=HM.out;have bP:w.heap.size≤wo.heap.size:=HQ.out.size;have ho:=HO.out;by_cases ES:128≤y
  ·obtain⟨kF,Bz,Ib⟩:=PZ m y ES ZK
   have aC:l++jC m y=(l++[UInt8.ofNat (y%128+128)])++jC (m-1) (y / 128):=by rw[Bz];simp
   have aX:=Hd aC;have HYL:=Hd Ib;clear aC Bz Ib ZK HO;go_wp2_with (at_builtin;go_must (refine bG wo ρ _ _ 92 ρ w.heap.size 5 _ i0 (.int .u8 0) 1 1 underlying92 hi bY bB aW rfl Z Z _ _ _ ρ ho #[.int .u8 (128+(y:Int)%128)] (by simp[Act.eval]) rfl ?c1 ?c2 bP ?_))
   case c1=>simp[Value.oneCell']
   case c2=>omega
   intro g6 cap6 w6 E9 Pp aaW aiW aaC;have q6:Q w w6:=bD HQ.out ho Pp (Ω _) U;rw[show(128+(y:Int)%128)=((y%128+128:Nat):Int) by omega,Jk _ _ U,show l.length+1=(l++[UInt8.ofNat (y%128+128)]).length by simp] at E9
   have HO6:=Hd E9;have lG:=Hd q6;clear E9 q6 Pp aaW ho;rw[show l.length+1=(l++[UInt8.ofNat (y%128+128)]).length by simp]
   generalize fF:l++[UInt8.ofNat (y%128+128)]=l2 at *;have amV:l2.length=l.length+1:=by rw[←fF];simp
   clear fF;go_wp2_with fail;go_roundw;case rel=>exact⟨y / 128,m-1,l2,by go_num,U,U,U,⟨U,HYL.out⟩,by show _=_;rw[←aX.out];exact HL.out,HO6,lG⟩
   case measure=>simp[intOf];omega
  ·have Br:=KG m y JH U
   have hend:l++[UInt8.ofNat y]=dN v:=by rw[←HL.out,Br]
   have HE:=Hd hend;clear hend Br ZK HO;go_wp2_with (at_builtin;go_must (refine bG wo ρ _ _ 92 ρ w.heap.size 5 _ i0 (.int .u8 0) 1 1 underlying92 hi bY bB aW rfl Z Z _ _ _ ρ ho #[.int .u8 (y:Int)] (by simp[Act.eval]) rfl ?c1 ?c2 bP ?_))
   case c1=>simp[Value.oneCell']
   case c2=>omega
   intro g6 cap6 w6 E9 Pp aaW aiW aaC;have q6:Q w w6:=bD HQ.out ho Pp (Ω _) U;rw[Jk _ _ U,HE.out,show l.length+1=(dN v).length by rw[←HE.out];simp] at E9
   have hc:=XP E9;have lG:=Hd q6;rw[show l.length+1=(dN v).length by rw[←HE.out];simp]
   clear E9 q6 Pp aaW ho;go_wp2_with fail;go_ret;exact⟨rfl,lG.out⟩
theorem E0(s:Bytes)(k:Nat)(hk:k<s.length)(hk9:k≤9)(hj:∀j,j<k→128≤bA s j)(hb:bA s k<128)(x:Nat)(hx:x=(gZ s k+bA s k%128*128 ^ k%18446744073709551616)%18446744073709551616):
  (dN x=s.take (k+1)→fX s x (s.drop (k+1)))∧(dN x≠s.take (k+1)→∀v r,¬fX s v r):=by
 have Ac:x<18446744073709551616:=U;refine⟨fun he=>⟨Ac,by rw[he,OR]⟩,fun aU v r hv=>aU ?_⟩
 obtain⟨j,h1,h2,h3⟩:=zN s v r hv;have OC:=Ek s j k h2 hb hj;subst OC;have hv2:=Fb s j h2 h1 h3;have h4:=hv2.1;have ER:gZ s (j+1)=gZ s j+bA s j%128*128 ^ j:=rfl;have h5:bA s j%128*128 ^ j<18446744073709551616:=U;have sH:x=gZ s (j+1):=by
  rw[hx,OS h5,ER];exact OS U
 have h6:=hv2.2;rw[←sH] at h6;have hl:(dN x).length=j+1:=by
  have h7:=Pu List.length h6;rw[Δ,L5] at h7;omega
 have h8:(dN x++s.drop (j+1)).take (j+1)=dN x:=SU hl;rw[←h6] at h8;exact h8.symm
theorem wrap_u64(n:Nat):IntKind.u64.wrap (n:Int)=((n%18446744073709551616:Nat):Int):=by
 simp only[IntKind.wrap,IntKind.bits,IntKind.signed];simp
theorem XQ(s:Bytes)(w:World)(hs:s.length≤9000000000000000000):
  Calls prog 185 #[ah s] w fun e w'=>((∃v r,fX s v r∧e=.returned (.tuple #[.int .u64 (v:Nat),ah r,.bool true]))∨((∀v r,¬fX s v r)∧e=.returned (.tuple #[.int .u64 0,ah [],.bool false])))∧Q w w':=by
 have iH:prog.follows .mixedOrders=true:=by kernel_rfl
 go_enter func185,ntmps185;go_wp2_with fail;go_loopw [5,6,7] (fun xv pv i wr=>∃k x p:Nat,k≤10∧k≤s.length∧i=.int .i64 (k:Nat)∧xv=.int .u64 (x:Nat)∧pv=.int .u64 (p:Nat)∧x<18446744073709551616∧p<18446744073709551616∧Hid (k≤9→x=gZ s k∧p=128 ^ k)∧Hid (∀j,j<k→128≤bA s j)∧Hid (Q w wr)) (fun _ _ i _=>10-(intOf i).toNat)
 case atStart=>exact⟨0,0,1,U,U,rfl,rfl,rfl,U,U,fun _=>⟨rfl,rfl⟩,fun j hj=>U,Q.refl _⟩
 case round =>
  obtain⟨k,x,p,hk,zB,rfl,rfl,rfl,Ac,bW,HX,HJ,HQ⟩:=hrel;obtain⟨wo,rfl⟩:∃wo:World,wo=wr:=⟨_,rfl⟩;by_cases ay:k<s.length∧k<10
  ·obtain⟨nR,nX⟩:=ay
   obtain⟨sH,zA⟩:=HX.out U;have dZ:=jW s k;have eu:((({ data:=s.toArray }:ByteArray)[k]'nR).toNat:Int)=(bA s k:Nat):=my s k nR;obtain⟨m1,kF⟩:∃m1,m1=bA s k%128*p%18446744073709551616:=⟨_,rfl⟩;obtain⟨m2,lD⟩:∃m2,m2=(x+m1)%18446744073709551616:=⟨_,rfl⟩;obtain⟨p2,iq⟩:∃p2,p2=p*128%18446744073709551616:=⟨_,rfl⟩;have eO:IntKind.u64.wrap ((((({ data:=s.toArray }:ByteArray)[k]'nR).toNat:Int)%128)*(p:Int))=(m1:Int):=by
    rw[eu,kF,←wrap_u64];congr 1
   have gD:IntKind.u64.wrap ((x:Int)+(m1:Int))=(m2:Int):=by
    rw[lD,←wrap_u64];congr 1
   have zu:IntKind.u64.wrap ((p:Int)*128)=(p2:Int):=by
    rw[iq,←wrap_u64];congr 1
   have aeR:m2<18446744073709551616:=U;have aiX:p2<18446744073709551616:=U;have pU:=E0 s k nR U HJ.out;have bq:(k:Int)<10:=U;have Dw:(k:Int)<(s.length:Int):=U;have EP:(0:Int)≤(k:Int):=U;by_cases ES:128≤bA s k
   ·have hb1:¬((({ data:=s.toArray }:ByteArray)[k]'nR).toNat:Int)<128:=by rw[eu];omega
    have bN:(128:Int)≤((({ data:=s.toArray }:ByteArray)[k]'nR).toNat:Int):=by rw[eu];omega
    have gU:k+1≤9→m2=gZ s (k+1)∧p2=128 ^ (k+1):=fun h9=>by
     have h1:=DC s (k+1);have h2:128 ^ (k+1)≤128 ^ 9:=W8 U h9;have h3:(128:Nat) ^ 9=9223372036854775808:=pH;have h4:gZ s (k+1)=gZ s k+bA s k%128*128 ^ k:=rfl;have h5:(128:Nat) ^ (k+1)=128 ^ k*128:=YY ..;constructor
     ·rw[lD,kF,sH,zA,OS (by omega:bA s k%128*128 ^ k<18446744073709551616),←h4]
      exact OS U
     ·rw[iq,zA,←h5];exact OS U
    have qF:∀j,j<k+1→128≤bA s j:=fun j hj=>by
     by_cases he:j=k
     ·subst he;exact ES
     ·exact HJ.out j U
    have qB:=Hd gU;have rM:=Hd qF;clear gU qF kF lD iq sH zA eu pU;go_wp2_with fail;exact⟨⟨k+1,m2,p2,U,U,by go_num,rfl,rfl,aeR,aiX,qB,rM,HQ⟩,by simp[intOf];omega⟩
   ·have hb1:((({ data:=s.toArray }:ByteArray)[k]'nR).toNat:Int)<128:=by rw[eu];omega
    have bN:¬(128:Int)≤((({ data:=s.toArray }:ByteArray)[k]'nR).toNat:Int):=by rw[eu];omega
    have aiY:=pU U m2 (by rw[lD,kF,sH,zA])
    have cv:=fun W=>Rj m2 W aeR
    have kH:=uD s (k+1);have nQ:=fI s (k+1);have hkw:IntKind.i64.wrap ((k+1:Nat):Int)=((k+1:Nat):Int):=IntWalk.i64_in _ U;have Bv:((k+1:Nat):Int)≤(s.length:Int):=U;have kW:(0:Int)≤((k+1:Nat):Int):=U;have rH:(k:Int)+1=((k+1:Nat):Int):=U;obtain⟨hy,bI⟩:=aiY;generalize VP:dN m2=ve at *;generalize s.drop (k+1)=sd at *;generalize s.take (k+1)=st at *;generalize k+1=k1 at *;have CV:=Hd cv;have HY:=Hd hy;have dY:=Hd bI;clear cv hy bI pU kF lD iq sH zA eu VP HX HJ;have KK:=HQ;by_cases jT:ve=st
    ·have ZH:=HY.out jT
     have HYV:=Hd ZH;clear ZH;subst jT;go_wp2_with fail;go_region_held3 (fun w'=>True) (exact trivial)
      (first
       | (go_at_call 247;((with_reducible refine(CV.out _).mono ?_);rintro e w' ⟨rfl,q⟩);have s':Q w w':=Q.trans (by first|exact KK.out|exact KK.out.trans (Q.drew _)) q;clear KK;have KK:=Hd s';clear s' q))
     all_goals
      go_wp2_with fail;go_quiet (fail);go_wp2_with fail;go_ret3;exact⟨.inl ⟨m2,sd,HYV.out,rfl⟩,KK.out.trans (Q.drewN _ _)⟩
    ·have aeS:(ve==st)=false:=by simpa using jT
     have amW:@BEq.beq (List UInt8) instBEqOfDecidableEq ve st=false:=by simpa using jT
     have amX:@BEq.beq (List UInt8) List.instBEq ve st=false:=by simpa using jT
     have HE:=Hd jT;clear jT;go_wp2_with fail;go_region_held3 (fun w'=>True) (exact trivial)
      (first
       | (go_at_call 247;((with_reducible refine(CV.out _).mono ?_);rintro e w' ⟨rfl,q⟩);have s':Q w w':=Q.trans (by first|exact KK.out|exact KK.out.trans (Q.drew _)) q;clear KK;have KK:=Hd s';clear s' q))
     all_goals
      go_wp2_with fail;go_ret3;exact⟨.inr ⟨dY.out HE.out,rfl⟩,KK.out⟩
  ·have hge:∀v r,¬fX s v r:=fun v r hv=>by
    obtain⟨j,h1,h2,h3⟩:=zN s v r hv;have h4:=h2.1;have h5:=HJ.out j U;have h6:=h2.2.2.1;omega
   have wN:=Hd hge;have hor:s.length≤k∨10≤k:=U;clear hge ay;rcases hor with ho|ho;all_goals
    go_wp2_with fail;all_goals
     go_ret3;exact⟨.inr ⟨wN.out,rfl⟩,HQ.out⟩
structure db (w:World) (F:Nat→Prop) (b:Nat) (lv pv:Value) (d:af):Prop where
 box:Blk w b 104 #[lv,pv,.int .i64 d.b9,.bool d.dead]
 fb:F b
 ix:w.ownsRow 0 9 1 lv d.l.length (d.l.map ah)
 fl:∀k,lv.ownBlock=some k→F k
 il:w.ownsRow 0 134 2 pv d.p.length (aN d.p)
 fp:∀k,pv.ownBlock=some k→F k
def cn(w:World)(F:Nat→Prop)(b:Nat)(d:af):Prop:=∃lv pv,db w F b lv pv d
theorem db.mono{w:World}{F G:Nat→Prop}{b:Nat}{lv pv:Value}{d:af}(h:db w F b lv pv d)(k:∀i,F i→G i):db w G b lv pv d :=
 ⟨h.box,k _ h.fb,h.ix,fun i e=>k _ (h.fl i e),h.il,fun i e=>k _ (h.fp i e)⟩
theorem cn.mono{w:World}{F G:Nat→Prop}{b:Nat}{d:af}(h:cn w F b d)(k:∀i,F i→G i):cn w G b d:=by
 obtain⟨lv,pv,h⟩:=h;exact⟨lv,pv,h.mono k⟩
theorem db.beside{w w':World}{F G:Nat→Prop}{b:Nat}{lv pv:Value}{d:af}(h:db w F b lv pv d)(t:ae G w w')(hd:∀k,F k→¬G k):db w' F b lv pv d :=
 ⟨t.blk h.box (hd _ h.fb),h.fb,t.owns h.ix (fun k e=>hd _ (h.fl k e)),h.fl,t.owns h.il (fun k e=>hd _ (h.fp k e)),h.fp⟩
theorem cn.beside{w w':World}{F G:Nat→Prop}{b:Nat}{d:af}(h:cn w F b d)(t:ae G w w')(hd:∀k,F k→¬G k):cn w' F b d:=by
 obtain⟨lv,pv,h⟩:=h;exact⟨lv,pv,h.beside t hd⟩
theorem db.keep{w w':World}{F:Nat→Prop}{b:Nat}{lv pv:Value}{d:af}(h:db w F b lv pv d)(q:Q w w'):db w' F b lv pv d :=
 h.beside (ae.br (own:=fun _=>False) q) (fun _ _=>id)
theorem cn.keep{w w':World}{F:Nat→Prop}{b:Nat}{d:af}(h:cn w F b d)(q:Q w w'):cn w' F b d :=
 h.beside (ae.br (own:=fun _=>False) q) (fun _ _=>id)
theorem db.ne{w:World}{F:Nat→Prop}{b:Nat}{lv pv:Value}{d:af}(h:db w F b lv pv d):(∀k,lv.ownBlock=some k→k≠b)∧(∀k,pv.ownBlock=some k→k≠b) :=
 ⟨fun k e=>kM h.ix h.box Z k e,fun k e=>kM h.il h.box Z k e⟩
theorem db.ia{w:World}{F:Nat→Prop}{b:Nat}{lv pv:Value}{d:af}(h:db w F b lv pv d)(i:Nat)(v:Value):ae F w (w.setCell ⟨b,i,none⟩ v)∧(w.setCell ⟨b,i,none⟩ v).ownsRow 0 9 1 lv d.l.length (d.l.map ah) ∧
  (w.setCell ⟨b,i,none⟩ v).ownsRow 0 134 2 pv d.p.length (aN d.p)∧Blk (w.setCell ⟨b,i,none⟩ v) b 104 (#[lv,pv,.int .i64 d.b9,.bool d.dead].setIfInBounds i v):=by
 have t:ae (fun k=>k=b) w (w.setCell ⟨b,i,none⟩ v):=ae.setCell (a:=⟨b,i,none⟩) (ae.refl (fun k=>k=b) w) (.inl rfl) v
 exact⟨(ae.refl F w).setCell (.inl h.fb) v,t.owns h.ix (fun k e=>h.ne.1 k e),t.owns h.il (fun k e=>h.ne.2 k e),h.box.set i v⟩
theorem db.b9{w:World}{F:Nat→Prop}{b:Nat}{lv pv:Value}{d:af}(h:db w F b lv pv d)(f:Int):db (w.setCell ⟨b,2,none⟩ (.int .i64 f)) F b lv pv { d with b9:=f }∧ae F w (w.setCell ⟨b,2,none⟩ (.int .i64 f)):=by
 obtain⟨h1,h2,h3,h4⟩:=h.ia 2 (.int .i64 f);exact⟨⟨h4,h.fb,h2,h.fl,h3,h.fp⟩,h1⟩
theorem db.dead{w:World}{F:Nat→Prop}{b:Nat}{lv pv:Value}{d:af}(h:db w F b lv pv d)(x:Bool):db (w.setCell ⟨b,3,none⟩ (.bool x)) F b lv pv { d with dead:=x }∧ae F w (w.setCell ⟨b,3,none⟩ (.bool x)):=by
 obtain⟨h1,h2,h3,h4⟩:=h.ia 3 (.bool x);exact⟨⟨h4,h.fb,h2,h.fl,h3,h.fp⟩,h1⟩
theorem db.empty{w:World}{F:Nat→Prop}{b:Nat}{lv pv:Value}{d:af}(h:db w F b lv pv d):db (w.setCell ⟨b,1,none⟩ (.slice none 0 0)) F b lv (.slice none 0 0) { d with p:=[] }∧ae F w (w.setCell ⟨b,1,none⟩ (.slice none 0 0)):=by
 obtain⟨h1,h2,h3,h4⟩:=h.ia 1 (.slice none 0 0);exact⟨⟨h4,h.fb,h2,h.fl,⟨rfl,.inl ⟨rfl,rfl⟩⟩,fun k e=>by simp[Value.ownBlock] at e⟩,h1⟩
theorem db.gt{w:World}{F:Nat→Prop}{b:Nat}{lv pv:Value}{d:af}(h:db w F b lv pv d):∃la lc,lv=.slice la d.l.length lc∧∀m (hm:m<d.l.length),∃g2,la=some ⟨g2,0,none⟩∧w.cell? ⟨g2,m,none⟩=some (ah d.l[m])∧w.frozen? ⟨g2,m,none⟩=false:=by
 obtain⟨la,lc,lI,om⟩:=aY h.ix;have hr:=h.ix;subst lI;refine⟨la,lc,rfl,fun m hm=>?_⟩
 obtain⟨g2,rfl⟩:=om U;refine⟨g2,rfl,?_,hr.frozenAt m⟩;rw[hr.cellAt m U];simp[hm]
theorem db.js{w:World}{F:Nat→Prop}{b:Nat}{lv pv:Value}{d:af}(h:db w F b lv pv d):∃pa pc,pv=.slice pa d.p.length pc∧∀m (hm:m<d.p.length),∃g2,pa=some ⟨g2,0,none⟩∧w.cell? ⟨g2,m*2,none⟩=some (.int .i64 (d.p[m].1:Nat))∧w.cell? ⟨g2,m*2+1,none⟩=some (ah d.p[m].2):=by
 obtain⟨pa,pc,D5,nO⟩:=aY h.il;have hr:=h.il;subst D5;refine⟨pa,pc,rfl,fun m hm=>?_⟩
 obtain⟨g2,rfl⟩:=nO U;refine⟨g2,rfl,?_,?_⟩
 ·rw[hr.cellAt _ U];exact(fQ d.p m hm).1
 ·rw[hr.cellAt _ U];exact(fQ d.p m hm).2
theorem db.lay{w:World}{F:Nat→Prop}{b gl lc:Nat}{pv:Value}{d:af}(h:db w F b (.slice (some ⟨gl,0,none⟩) d.l.length lc) pv d)(i:Nat)(s:Bytes):db (w.setCell ⟨gl,i,none⟩ (ah s)) F b (.slice (some ⟨gl,0,none⟩) d.l.length lc) pv { d with l:=d.l.set i s }∧ae F w (w.setCell ⟨gl,i,none⟩ (ah s)):=by
 have hF:F gl:=h.fl gl rfl;have aU:b≠gl:=fun e=>h.ne.1 gl rfl e.symm
 have gK:∀k,pv.ownBlock=some k→k≠gl:=fun k e e2=>by
  subst e2;obtain⟨cs,hc⟩:=oH h.il k e;obtain⟨ds,hd⟩:=oH h.ix k rfl;rw[hc] at hd;injection hd with hd;injection hd with _ hd _;exact absurd hd Z
 have t:ae (fun k=>k=gl) w (w.setCell ⟨gl,i,none⟩ (ah s)):=ae.setCell (a:=⟨gl,i,none⟩) (ae.refl (fun k=>k=gl) w) (.inl rfl) _
 have hr:=(h.ix.stored i (ah s)).1;rw[←List.map_set] at hr;refine⟨⟨t.blk h.box aU,h.fb,?_,h.fl,t.owns h.il gK,h.fp⟩,(ae.refl F w).setCell (a:=⟨gl,i,none⟩) (.inl hF) _⟩;rw[show({ d with l:=d.l.set i s }:af).l.length=d.l.length from Rx]
 exact hr
end
end Go.Proofs.YtbkahhebmpehnaaGreatDoor
