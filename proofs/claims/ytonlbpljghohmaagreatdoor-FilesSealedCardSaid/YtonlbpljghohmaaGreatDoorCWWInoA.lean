/- Joined: WInoA to WInoH -/
import Derived.Shelf.Strings.SlTrimAscii
import Derived.Handy
import Derived.Shelf.SlSortCmp.WholeK
import Derived.Test.YtonlbpljghohmaaGreatDoorCWWStoN
set_option linter.all false
set_option maxRecDepth 100000
set_option maxHeartbeats 8000000
namespace Go.Proofs.YtonlbpljghohmaaGreatDoor
open Go.Proofs.Tryz
section
open Go.RowKit
theorem eight{w w':World}(q:Q w w'){a0 a1 a2 a3 a4 a5 a6 a7:Addr}{v0 v1 v2 v3 v4 v5 v6 v7:Value}(h0:w.cell? a0=some v0)(h1:w.cell? a1=some v1)(h2:w.cell? a2=some v2)(h3:w.cell? a3=some v3)(h4:w.cell? a4=some v4)(h5:w.cell? a5=some v5)(h6:w.cell? a6=some v6)(h7:w.cell? a7=some v7):
  w'.cell? a0=some v0∧w'.cell? a1=some v1∧w'.cell? a2=some v2∧w'.cell? a3=some v3∧w'.cell? a4=some v4∧w'.cell? a5=some v5∧w'.cell? a6=some v6∧w'.cell? a7=some v7:=⟨aj q h0,aj q h1,aj q h2,aj q h3,aj q h4,aj q h5,aj q h6,aj q h7⟩
theorem QN{α:Type}(p:α→Bool)(l:List α):(∀x∈l.dropWhile p,p x=true)↔∀x∈l,p x=true:=by
 induction l with
 | nil=>simp
 | cons a l ih =>
  rw[aec];cases h:p a with
  | true=>rw[Φ rfl,ih];simp[h]
  | false=>rw[η Z]
theorem drop_nil{α:Type}(p:α→Bool)(l:List α):l.dropWhile p=[]↔∀x∈l,p x=true:=by
 rw[←QN];induction l with
 | nil=>simp
 | cons a l ih =>
  rw[aec];cases h:p a with
  | true=>rw[Φ rfl,ih]
  | false=>rw[η Z];simp[h]
theorem UY{α:Type}[DecidableEq α](l:List α):l.isEmpty=decide (l=[]):=by cases l<;>simp
theorem QO(s cs:Bytes):Lib.trimS s cs=[]↔∀c∈s,c∈cs:=by
 unfold Lib.trimS Lib.trimRightS Lib.trimLeftS;rw[drop_nil];have h:=QN (cs.contains ·) s.reverse
 simp only[aco] at h ⊢;rw[h];simp
theorem J7(a b:Bytes):Op.bytesLess a b=decide (a<b):=by
 induction a generalizing b with
 | nil=>cases b<;>simp[Op.bytesLess]
 | cons x a ih =>
  cases b with
  | nil=>simp[Op.bytesLess]
  | cons y b =>
   rw[Op.bytesLess,ih];rw[acw];simp only[Bool.or_eq_true,Up,abz,NX,List.cons_lt_cons_iff]
theorem EH(s:Bytes)(w:World)(hs:s.length≤9223372036854775807):
  Calls prog 43 #[ah s] w fun e w'=>e=.returned (.bool (iM s))∧Q w w':=by
 have ht:=fun W=>Any.strings_Trim_laid Tryz.lays160 (by kernel_rfl) ⟨s.toArray⟩ ⟨#[97,98,99,100,101,102,103,104,105,106,107,108,109,110,111,112,113,114,115,116,117,118,119,120,121,122,48,49,50,51,52,53,54,55,56,57,46,45,95]⟩ W hs Z (ascii_of_all Z)
 by_cases h0:s=[]
 ·subst h0
  have hr:iM []=false:=rfl;rw[hr];clear ht;go_enter func43,ntmps43;go_wp2_with fail;go_ret;exact⟨rfl,Q.refl _⟩
 ·have hb:(s==[])=false:=by simpa using h0
  by_cases h1:s.length≤24
  ·have hr:iM s=decide (Lib.trimS s pD=[]):=by
    unfold iM;rw[acw];simp only[Up];rw[QO];exact⟨fun h=>h.2.2,fun h=>⟨h0,h1,h⟩⟩
   rw[hr];have HT:=Hd ht;clear ht hr h0;have h2:(s.length:Int)≤24:=U;go_enter func43,ntmps43;go_wp2_with fail;refine(HT.out _).mono ?_;rintro e w1 ⟨rfl,q⟩;have Q1:=Hd q;clear q;go_wp2_with fail;go_ret;exact⟨JN (UY (Lib.trimS s pD)),Q1.out⟩
  ·have hr:iM s=false:=Nx (fun h=>h1 h.2.1)
   rw[hr];have h2:¬(s.length:Int)≤24:=U;clear ht hr h0;go_enter func43,ntmps43;go_wp2_with fail;go_ret;exact⟨rfl,Q.refl _⟩
theorem Gr(f:ax)(a:Value)(w:World):Calls prog 121 #[oN f a] w fun e w'=>e=.returned (ah f.name)∧Q w w':=by
 obtain⟨n,s,z,x⟩:=f;go_enter func121,ntmps121;go_wp2_with fail;go_ret;exact⟨rfl,Q.alloc _ _⟩
theorem Lh(x:Bytes)(w:World):Calls prog 285 #[ah x] w fun e w'=>e=.returned (.bool false)∧w=w':=by
 go_enter func285,ntmps285;go_wp2;go_ret;exact⟨κ,rfl⟩
def im(a b:Bytes):Int:=if a<b then -1 else if b<a then 1 else 0
theorem ID(x y:Bytes):(!Op.bytesLess x y && !x==y)=decide (y<x):=by
 rw[J7];by_cases h:x<y
 ·rw[NO h,Nx (fun h2=>DR _ (mC h h2))];rfl
 ·by_cases e:x=y
  ·subst e;rw[Nx (DR _)];simp
  ·rw[Nx h,NO (np h e)];simp[e]
theorem Fc(x y:Bytes)(w:World):Calls prog 236 #[ah x,ah y] w fun e w'=>e=.returned (.int .i64 (im x y))∧w=w':=by
 have hg:=ID x y;have hb:=J7 x y;unfold im;by_cases h1:x<y
 ·rw[NO h1] at hb
  rw[Φ h1];clear h1 hg;go_enter func236,ntmps236;go_wp2_with (go_at_call 285;refine(Lh _ _).mono ?_;rintro e w' ⟨rfl,rfl⟩);go_ret;exact⟨rfl,rfl⟩
 ·rw[Nx h1] at hb
  rw[η h1];have hz:(!x==y)=decide (y<x):=by rw[hb] at hg;exact hg
  clear h1;by_cases h2:y<x;all_goals
   simp only[h2,decide_true,decide_false,QQ,PR] at hz hg ⊢;clear h2;go_enter func236,ntmps236;go_wp2_with (go_at_call 285;refine(Lh _ _).mono ?_;rintro e w' ⟨rfl,rfl⟩);go_ret;exact⟨rfl,rfl⟩
theorem UZ(f:ax)(a:Value)(s:Bytes)(B:Nat)(w:World)(h:w.cell? ⟨B,0,none⟩=some (.func (.func 121) #[] #[])):Calls prog 235 #[oN f a,ah s,.pointer (some ⟨B,0,none⟩)] w fun e w'=>e=.returned (.int .i64 (im f.name s))∧Q w w':=by
 have hn:=fun W=>Gr f a W
 have hc:=fun W=>Fc f.name s W
 have bZ:=aj (Q.alloc w (.cells #[ah f.name,.bool f.sl,.int .i64 (f.size:Nat),a] 56)) h;have HN:=Hd hn;have HC:=Hd hc;clear hn hc;generalize im f.name s=c at *;have eg:∀args w,(callFunc 121 args).run prog w=.ok (.enter 121 args) w:=enters_of func121 (by kernel_rfl) rfl
 obtain⟨n,sl,z,x⟩:=f;go_enter func235,ntmps235;go_wp2_with fail;refine(HN.out _).mono ?_;rintro e w1 ⟨rfl,q⟩;have Q1:=Hd ((Q.alloc w (.cells #[ah n,.bool sl,.int .i64 (z:Nat),a] 56)).trans q);clear q;go_wp2_with fail;refine(HC.out _).mono ?_;rintro e w2 ⟨rfl,rfl⟩;go_wp2_with fail;go_ret;exact⟨rfl,Q1.out⟩
theorem JP(a b:Bytes):im a b<0↔a<b:=by
 unfold im;split
 ·rename_i h;exact⟨fun _=>h,fun _=>Z⟩
 ·rename_i h
  split
  ·exact⟨fun x=>absurd x Z,fun x=>absurd x h⟩
  ·exact⟨fun x=>absurd x Z,fun x=>absurd x h⟩
theorem IH(a b:Bytes):im a b=0↔a=b:=by
 unfold im;split
 ·rename_i h;exact⟨fun x=>absurd x Z,fun e=>by subst e;exact absurd h (DR _)⟩
 ·rename_i h
  split
  ·rename_i h2;exact⟨fun x=>absurd x Z,fun e=>by subst e;exact absurd h2 (DR _)⟩
  ·rename_i h2;exact⟨fun _=>adj fun e=>h2 (np h e),fun _=>rfl⟩
theorem zt(v:Value)(l:List ax)(s:Bytes)(B:Nat)(w:World)(h:eE w v l)(hl:l.length≤1000000)(hr:l.Pairwise fun a b=>a.name<b.name)(hb:w.cell? ⟨B,0,none⟩=some (.func (.func 121) #[] #[])):
  Calls prog 234 #[v,ah s,.func (.func 235) #[] #[.pointer (some ⟨B,0,none⟩)]] w fun e w'=>e=.returned (.tuple #[.int .i64 (aA l s:Nat),.bool (isF l s)])∧Q w w':=by
 obtain⟨a,cap,rfl,hc⟩:=h.value;have bW:=Gm l s;have nO:=fun k hk=>zf hr s k hk
 have bL:=fun (k:Nat) (hk:k<l.length) (av:Value) (W:World) (q:Q w W)=>UZ l[k] av s B W (aj q hb)
 have Tx:=fun (k:Nat) (hk:k<l.length)=>JP l[k].name s
 have V4:∀hk:aA l s<l.length,isF l s=decide (im (l[aA l s]'hk).name s=0):=fun hk=>by
  unfold isF;rw[Mp hk];simp only[IH]
 have oZ:¬aA l s<l.length→isF l s=false:=fun hk=>by unfold isF;rw[adO U]
 have eg:∀args w,(callFunc 235 args).run prog w=.ok (.enter 235 args) w:=enters_of func235 (by kernel_rfl) rfl
 have HC:=Hd hc;have HP:=Hd nO;have p8:=Hd bL;have iI:=Hd Tx;have HIE:=Hd V4;have Zi:=Hd oZ;have zJ:=Hd bW;clear hc nO bL Tx V4 oZ bW h hr hb;generalize isF l s=fo at *;generalize hP:aA l s=p at *;clear hP;go_enter func234,ntmps234;go_wp2_with fail;go_loopw [9,10] (fun i j wr=>∃x y:Nat,x≤y∧y≤l.length∧i=.int .i64 (x:Nat)∧j=.int .i64 (y:Nat)∧Hid (x≤p∧p≤y)∧Hid (Q w wr)) (fun i j _=>(intOf j).toNat-(intOf i).toNat)
 case atStart=>exact⟨0,l.length,MD _,Ω _,rfl,rfl,⟨MD _,zJ.out⟩,Q.refl w⟩
 case round =>
  obtain⟨x,y,hxy,hyn,rfl,rfl,HI,HQ⟩:=hrel;obtain⟨wo,rfl⟩:∃wo:World,wo=wr:=⟨_,rfl⟩;by_cases ay:x<y
  ·obtain⟨m,hm⟩:∃m,m=(x+y) / 2:=⟨_,rfl⟩
   have iU:m<l.length:=U;have e1:((x:Int)+(y:Int)) / 2=(m:Nat):=U;obtain⟨b,off,rfl,hd⟩:=HC.out U;obtain⟨av,c0,c1,c2,c3,_⟩:=hd m iU;have c0:=aj HQ.out c0;have c1:=aj HQ.out c1;have c2:=aj HQ.out c2;have c3:=aj HQ.out c3;have kR:=p8.out m iU av wo HQ.out;have oP:=iI.out m iU;have qH:=HP.out m iU;have Tz:(m:Int)<(l.length:Int):=U;have JH:(0:Int)≤(m:Int):=U;have Cv:=Hd kR;have HD:=Hd hd;have HM:=Hd (And.intro hm ay);clear kR hd hm;generalize l[m]=f at *;obtain⟨fn,fs,fz,fx⟩:=f;simp only at c0 c1 c2 oP qH;generalize nU:im fn s=cr at *;by_cases TA:cr<0
   ·have TB:=qH.1 (oP.1 TA)
    have HZ:=Hd TB;clear TB oP qH nU;go_wp2_with fail;refine Cv.out.mono ?_;rintro e w1 ⟨rfl,q⟩;have Q1:=Hd (HQ.out.trans q);clear q;go_wp2_with fail;go_roundw;case rel=>exact⟨m+1,y,by have:=HM.out;omega,hyn,by go_num,rfl,⟨HZ.out,HI.out.2⟩,Q1⟩
    case measure=>have:=HM.out;simp[intOf];omega
   ·have TB:p≤m:=adY.1 fun h=>TA (oP.2 (qH.2 h))
    have HZ:=Hd TB;clear TB oP qH nU;go_wp2_with fail;refine Cv.out.mono ?_;rintro e w1 ⟨rfl,q⟩;have Q1:=Hd (HQ.out.trans q);clear q;go_wp2_with fail;go_roundw;case rel=>exact⟨x,m,by have:=HM.out;omega,by have:=HM.out;omega,rfl,rfl,⟨HI.out.1,HZ.out⟩,Q1⟩
    case measure=>have:=HM.out;simp[intOf];omega
  ·obtain rfl:x=y:=U
   obtain rfl:p=x:=by have:=HI.out;omega
   by_cases gK:p<l.length
   ·obtain⟨b,off,rfl,hd⟩:=HC.out U
    obtain⟨av,c0,c1,c2,c3,_⟩:=hd p gK;have c0:=aj HQ.out c0;have c1:=aj HQ.out c1;have c2:=aj HQ.out c2;have c3:=aj HQ.out c3;have kR:=p8.out p gK av wo HQ.out;have V4:=HIE.out gK;have Cv:=Hd kR;have hpi:(p:Int)<(l.length:Int):=U;clear kR hd;generalize l[p]=f at *;obtain⟨fn,fs,fz,fx⟩:=f;simp only at c0 c1 c2 V4;generalize nU:im fn s=cr at *;have hz:(cr==0)=fo:=by rw[V4];rfl
    clear nU V4;go_wp2_with fail;refine Cv.out.mono ?_;rintro e w1 ⟨rfl,q⟩;have Q1:=Hd (HQ.out.trans q);clear q;go_wp2_with fail;go_returns;exact⟨rfl,Q1.out⟩
   ·have Mq:=Zi.out gK
    have hpi:¬(p:Int)<(l.length:Int):=U;subst Mq;go_wp2_with fail;go_returns;exact⟨rfl,HQ.out⟩
theorem J8(v:Value)(l:List ax)(s:Bytes)(w:World)(h:eE w v l)(hl:l.length≤1000000)(hr:l.Pairwise fun a b=>a.name<b.name):
  Calls prog 91 #[v,ah s] w fun e w'=>e=.returned (.tuple #[.int .i64 (aA l s:Nat),.bool (isF l s)])∧Q w w':=by
 have hq:=Q.alloc w (.cells #[.func (.func 121) #[] #[]] 191);have hb:=zt v l s w.heap.size _ (h.stays hq) hl hr ((Blk.new w 191 #[.func (.func 121) #[] #[]]).cell 0 _ rfl);obtain⟨a,cap,rfl,_⟩:=h.value;have HB:=Hd hb;have HQ:=Hd hq;clear hb hq h hr;generalize aA l s=p at *;generalize isF l s=fo at *;have rD:Calls prog 166 #[.slice a l.length cap,.func (.func 121) #[] #[],ah s] w fun e w'=>e=.returned (.tuple #[.int .i64 (p:Nat),.bool fo])∧Q w w':=by
  go_enter func166,ntmps166;go_wp2_with fail;refine HB.out.mono ?_;rintro e w1 ⟨rfl,q⟩;have Q1:=Hd (HQ.out.trans q);clear q;go_wp2_with fail;go_returns;exact⟨rfl,Q1.out⟩
 have HS:=Hd rD;clear rD HB HQ;go_enter func91,ntmps91;go_wp2_with fail;refine HS.out.mono ?_;rintro e w1 ⟨rfl,q⟩;have Q1:=Hd q;clear q;go_wp2_with fail;go_returns;exact⟨rfl,Q1.out⟩
theorem rq(v:Value)(l:List ax)(w:World)(h:eE w v l)(hl:l.length≤1000000)(hr:l.Pairwise fun a b=>a.name<b.name):
  Calls prog 120 #[v,.func (.func 121) #[] #[]] w fun e w'=>e=.returned (.bool true)∧Q w w':=by
 obtain⟨a,cap,rfl,hc⟩:=h.value;have kS:=fun (k:Nat) (h1:k<l.length) (h2:k+1<l.length)=>Ts.1 hr k (k+1) h1 h2 (acu k)
 have HC:=Hd hc;have HR:=Hd kS;clear hc kS h hr;have eg:∀args w,(callFunc 121 args).run prog w=.ok (.enter 121 args) w:=enters_of func121 (by kernel_rfl) rfl
 go_enter func120,ntmps120;go_wp2_with fail;go_loopw [5] (fun i wr=>∃k:Nat,i=.int .i64 ((k:Int)+1)∧(k=0∨k<l.length)∧Hid (Q w wr)) (fun i _=>l.length-(intOf i).toNat)
 case atStart=>exact⟨0,rfl,.inl rfl,Q.refl w⟩
 case round =>
  obtain⟨k,rfl,hk,HQ⟩:=hrel;obtain⟨wo,rfl⟩:∃wo:World,wo=wr:=⟨_,rfl⟩;by_cases ay:k+1<l.length
  ·have bq:(k:Int)+1<(l.length:Int):=U
   have lT:(0:Int)≤(k:Int):=U;have iN:(k:Int)<(l.length:Int):=U;have Bv:(0:Int)≤(k:Int)+1:=U;have ht:((k:Int)+1).toNat=k+1:=U;have gD:IntKind.i64.wrap (k:Int)=(k:Int):=IntWalk.i64_in _ U;have hw:IntKind.i64.wrap ((k:Int)+1-1)=(k:Int):=by rw[IntWalk.i64_in _ U];omega
   obtain⟨b,off,rfl,hd⟩:=HC.out U;obtain⟨av,a0,a1,a2,a3,_⟩:=hd k U;obtain⟨bv,b0,b1,b2,b3,_⟩:=hd (k+1) ay;have a0:=aj HQ.out a0;have a1:=aj HQ.out a1;have a2:=aj HQ.out a2;have a3:=aj HQ.out a3;have b0:=aj HQ.out b0;have b1:=aj HQ.out b1;have b2:=aj HQ.out b2;have b3:=aj HQ.out b3;have mU:=HR.out k U ay;have na:=fun W=>Gr l[k] av W
   have nb:=fun W=>Gr l[k+1] bv W
   have NA:=Hd na;have NB:=Hd nb;clear hd na nb;generalize l[k+1]=f2 at *;generalize l[k]=f at *;obtain⟨fn,fs,fz,fx⟩:=f;obtain⟨gn,gs,gz,gx⟩:=f2;simp only at a0 a1 a2 b0 b1 b2 mU;have hge:=J7 fn gn;rw[NO mU] at hge;have HK:=Hd (And.intro ay hk);clear hk ay mU;have KK:=Hd (Q.refl wo);go_wp2_with fail
   (go_region_held3 (fun w'=>w'.cell? ⟨b,off+k*4,none⟩=some (ah fn)∧w'.cell? ⟨b,off+k*4+1,none⟩=some (.bool fs)∧w'.cell? ⟨b,off+k*4+2,none⟩=some (.int .i64 (fz:Nat))∧w'.cell? ⟨b,off+k*4+3,none⟩=some av ∧
     w'.cell? ⟨b,off+(k+1)*4,none⟩=some (ah gn)∧w'.cell? ⟨b,off+(k+1)*4+1,none⟩=some (.bool gs)∧w'.cell? ⟨b,off+(k+1)*4+2,none⟩=some (.int .i64 (gz:Nat))∧w'.cell? ⟨b,off+(k+1)*4+3,none⟩=some bv)
    (exact eight δ a0 a1 a2 a3 b0 b1 b2 b3)
    (first
     | (go_simp;with_reducible refine(NA.out _).mono ?_;rintro e w3 ⟨rfl,q3⟩;have s':Q wo w3:=Q.trans ω q3;clear KK;have KK:=Hd s';clear s' q3)
     | (go_simp;with_reducible refine(NB.out _).mono ?_;rintro e w3 ⟨rfl,q3⟩;have s':Q wo w3:=Q.trans ω q3;clear KK;have KK:=Hd s';clear s' q3)))
   all_goals
    go_wp2_with fail;go_roundw;case rel=>exact⟨k+1,by go_num,.inr HK.out.1,HQ.out.trans KK.out⟩
    case measure=>have:=HK.out.1;simp[intOf];omega
  ·have bq:¬(k:Int)+1<(l.length:Int):=U
   go_wp2_with fail;go_ret;exact⟨rfl,HQ.out⟩
theorem J9(x:List (Nat×Nat)):(aT x).length=total x:=by
 unfold aT total;induction x with
 | nil=>rfl
 | cons e x ih=>rw[OR,Δ,ih,WF,On,ad7]
theorem Xm(x:List (Nat×Nat))(k:Nat):total (x.take k)≤total x:=by
 unfold total;conv=>rhs;rw[←PP k x]
 rw[Pu,List.sum_append];omega
theorem Xn(x:List (Nat×Nat))(k:Nat)(h:k<x.length):total (x.take (k+1))=total (x.take k)+x[k].2:=by
 rw[M2 h,Et]
theorem ge.wide{first n a b:Nat}{f:ax}(h:ge first n f)(h1:a≤first)(h2:n≤b):ge a b f :=
 ⟨h.name,h.size,h.few,fun e he=>by have:=h.ext e he;omega,h.need⟩
theorem cL.wide{first n a b:Nat}{l:List ax}(h:cL first n l)(h1:a≤first)(h2:n≤b):cL a b l:=⟨h.few,h.rise,fun f hf=>(h.ok f hf).wide h1 h2,h.apart⟩
theorem ts(f:ax)(av:Value)(first n:Nat)(w:World)(h:ge first n f)(hn:n≤4096)(ha:Sl w av f.ext.length 2 (ext f.ext)):
  Calls prog 122 #[oN f av,.int .i64 (first:Nat),.int .i64 (n:Nat)] w fun e w'=>e=.returned (.bool true)∧Q w w':=by
 obtain⟨_,bP,vM,YJ,Cc⟩:=h;obtain⟨a,cap,rfl,hc⟩:=jS ha;have hq:=Q.alloc w (.cells #[ah f.name,.bool f.sl,.int .i64 (f.size:Nat),.slice a f.ext.length cap] 56);have hb:=Blk.new w 56 #[ah f.name,.bool f.sl,.int .i64 (f.size:Nat),.slice a f.ext.length cap];obtain⟨b0,b1,b2,b3,_⟩:=hb.c4;generalize dO:w.alloc (.cells #[ah f.name,.bool f.sl,.int .i64 (f.size:Nat),.slice a f.ext.length cap] 56)=wa at *;have abS:f.bl.length=total f.ext:=J9 f.ext;have TD:∀k,total (f.ext.take k)≤9000000:=fun k=>by have:=Xm f.ext k;unfold cB at Cc;omega
 have abT:=fun k hk=>Xn f.ext k hk
 have hend:total (f.ext.take f.ext.length)=(f.size+255) / 256:=by rw[N5,←abS,Cc];rfl
 have abU:=fun (k:Nat) (hk:k<f.ext.length)=>YJ _ (MA hk)
 have HC:=Hd hc;have HT:=Hd TD;have HS:=Hd abT;have HE:=Hd hend;have HX:=Hd abU;have mF:=Hd hq;have HB:=Hd hb;clear hc TD abT hend abU hq hb ha YJ Cc abS;have e1:¬(f.size:Int)<0:=U;have e2:¬(f.size:Int)>2147483647:=U;have e3:¬(f.ext.length:Int)>16:=U;obtain⟨fn,fs,fz,fx⟩:=f;simp only at *;go_enter func122,ntmps122;go_wp2_with fail;go_loopw [7,27] (fun u i wr=>∃k:Nat,u=.int .i64 (total (fx.take k):Nat)∧i=.int .i64 (k:Nat)∧k≤fx.length∧Hid (Q wa wr)) (fun _ i _=>fx.length-(intOf i).toNat)
 case atStart=>exact⟨0,rfl,rfl,MD _,Q.refl _⟩
 case round =>
  obtain⟨k,rfl,rfl,hk,HQ⟩:=hrel;obtain⟨wo,rfl⟩:∃wo:World,wo=wr:=⟨_,rfl⟩;have c2:=aj HQ.out b2;by_cases ay:k<fx.length
  ·have bq:(k:Int)<(fx.length:Int):=U
   have lT:(0:Int)≤(k:Int):=U;obtain⟨b,off,rfl,hd⟩:=HC.out U;obtain⟨x0,x1⟩:=hd k ay;replace x0:=aj HQ.out (aj mF.out x0);replace x1:=aj HQ.out (aj mF.out x1);obtain⟨y1,y2,y3⟩:=HX.out k ay;have aC:=HS.out k ay;have ht:=HT.out k;have eG:=HQ.out.trans (Q.alloc wo (.cells #[.int .i64 (fx[k].1:Nat),.int .i64 (fx[k].2:Nat)] 120));have g1:¬(fx[k].2:Int)<1:=U;have g2:¬(fx[k].1:Int)<(first:Int):=U
   have g3:¬(fx[k].1:Int)≥(n:Int):=U;have g4:IntKind.i64.wrap ((n:Int)-(fx[k].1:Int))=(n:Int)-(fx[k].1:Int):=IntWalk.i64_in _ U;have g5:¬(fx[k].2:Int)>(n:Int)-(fx[k].1:Int):=U;have g6:IntKind.i64.wrap ((total (fx.take k):Int)+(fx[k].2:Int))=((total (fx.take (k+1)):Nat):Int):=by rw[IntWalk.i64_in _ U];omega
   have HD:=Hd (And.intro ay aC);have bJ:=Hd eG;clear hd aC eG ht y1 y2 y3 hk;generalize fx[k]=e at *;obtain⟨ea,ec⟩:=e;clear ay;simp only at x0 x1 g1 g2 g3 g4 g5 g6;generalize total (fx.take k)=tk at *;generalize hT1:total (fx.take (k+1))=tk1 at *;have D7:=Hd hT1;clear hT1;go_wp2_with fail;go_roundw;case rel=>exact⟨k+1,by rw[D7.out],by go_num,HD.out.1,bJ.out⟩
   case measure=>have:=HD.out.1;simp[intOf];omega
  ·obtain rfl:k=fx.length:=U
   have he:=HE.out;rw[N5] at he;have HH:=Hd he;clear he;go_wp2_with fail;go_ret;exact⟨JN (by rw[HH.out];simp;try omega),mF.out.trans HQ.out⟩
end
section
open Go.Shelf Go.RowKit Go.Lib Go.Sort
open Go.RowKit
shelf_lay_g SlLaysF0.n6 Slsf 6 at Tryz 123 as Tryz.sortExt
abbrev i7:=Fin 65536×Nat
def zP(x:i7):List Value:=[.int .i64 (x.1.val:Nat),.int .i64 (x.2:Nat)]
def kp(x y:i7):Int:=(x.1.val:Int)-(y.1.val:Int)
def uJ(xs:List i7):List (Nat×Nat):=xs.map fun x=>(x.1.val,x.2)
theorem oS(xs:List i7)(j:Nat)(hj:j<xs.length*2):(ext (uJ xs))[j]?=some ((zP xs.toArray[j / 2]!)[j%2]!):=by
 have hi:j / 2<xs.length:=U;have e:xs.toArray[j / 2]! = xs[j / 2]:=by rw[aaj xs.toArray (j / 2) (by simpa using hi)];simp
 obtain⟨h0,h1⟩:=FZ (uJ xs) (j / 2) (by unfold uJ;rw[OK];exact hi)
 rw[e];have hm:(uJ xs)[j / 2]'(by unfold uJ;rw[OK];exact hi)=(xs[j / 2].1.val,xs[j / 2].2):=by unfold uJ;rw[ab9]
 rw[hm] at h0 h1;rcases ac3 j with h|h
 ·have qF:j=2*(j / 2):=U
  rw[h];conv=>lhs;rw[qF]
  exact h0
 ·have qF:j=2*(j / 2)+1:=U
  rw[h];conv=>lhs;rw[qF]
  exact h1
theorem Xo{w:World}{base g cap:Nat}{xs:List i7}(ho:w.ownsRow base 120 2 (.slice (some ⟨g,0,none⟩) xs.length cap) xs.length (ext (uJ xs))):Go.Sort.HoldsK zP 2 w g 0 xs.toArray:=by
 intro j hj;rw[Go.Sort.size_flatK] at hj;have xR:j<xs.length*2:=by simpa using hj
 obtain⟨_,a,c,hv,hc⟩:=Sl.cy ho;obtain⟨b,off,hb,kR⟩:=hc U;have LU:some ⟨g,0,none⟩=a:=by cases hv;rfl
 rw[hb] at LU;cases LU;rw[Go.Sort.get_flatK _ _ _ _ hj];refine⟨kR j _ (oS xs j xR),?_⟩;obtain⟨cs,mQ⟩:=oH ho g rfl;simp[World.frozen?,mQ]
theorem U0(w:World)(blk off n:Nat)(d:Array i7)(os:Array Obj):w.grownBy (sortWorldK zP 2 w blk off n d os) (some blk):=by
 refine⟨rfl,rfl,rfl,?_,fun k hk aU=>?_⟩
 ·unfold sortWorldK
  rw[Go.Sort.size_grow];have:(Go.Sort.putRowK zP 2 (Go.Sort.ahead w n) blk off d).heap.size=w.heap.size:=by rw[Go.Sort.size_putRowK];rfl
  omega
 ·have hb:blk≠k:=fun e=>aU (by rw[e])
  have hs:(Go.Sort.putRowK zP 2 (Go.Sort.ahead w n) blk off d).heap.size=w.heap.size:=by rw[Go.Sort.size_putRowK];rfl
  show((Go.Sort.putRowK zP 2 (Go.Sort.ahead w n) blk off d).heap++os)[k]?=w.heap[k]?;rw[ada U];show(w.heap.modify blk _)[k]?=w.heap[k]?;rw[VV,η hb]
theorem CE(cap:Nat)(w:World)(x:Value):Calls prog 267 #[.slice none 0 cap,.int .i64 0,.int .i64 0,x] w fun e w'=>e=.returned (.tuple #[])∧w=w':=by
 go_enter func267,ntmps267;go_wp2_with fail;go_loopw [8] (fun i wr=>i=.int .i64 1∧w=wr) (fun _ _=>0)
 case atStart=>exact⟨rfl,rfl⟩
 case round =>
  obtain⟨rfl,rfl⟩:=hrel;go_wp2_with fail;go_end0;exact⟨rfl,rfl⟩
theorem By(cap:Nat)(w:World)(x:Value)(n:Nat):Calls prog 207 #[.slice none 0 cap,.int .i64 0,.int .i64 0,.int .i64 (n:Nat),x] w fun e w'=>e=.returned (.tuple #[])∧w=w':=by
 go_enter func207,ntmps207;go_wp2_with fail;go_loopw [1,2] (fun x y wr=>x=.int .i64 0∧y=.int .i64 0∧w=wr) (fun _ _ _=>0)
 case atStart=>exact⟨rfl,rfl,rfl⟩
 case round =>
  obtain⟨rfl,rfl,rfl⟩:=hrel;go_wp2_with (go_at_call 267;refine(CE _ _ _).mono ?_;rintro e w' ⟨rfl,rfl⟩);refine bodyPost_ret (results_none rfl _ _ _) rfl ?_;exact⟨rfl,rfl⟩
theorem xn(cap:Nat)(w:World)(x:Value):Calls prog 123 #[.slice none 0 cap,x] w fun e w'=>e=.returned (.tuple #[])∧w=w':=by
 go_enter func123,ntmps123;go_wp2_with (first|(go_at_call 208;refine(Tryz.bits_Len 0 _ Z Z).mono ?_;rintro e w' ⟨rfl,rfl⟩)|(go_at_call 207;refine(By _ _ _ _).mono ?_;rintro e w' ⟨rfl,rfl⟩))
 go_end0;exact⟨rfl,rfl⟩
theorem E3(x y:i7)(w:World):Calls prog 124 #[.agg #[.int .i64 (x.1.val:Nat),.int .i64 (x.2:Nat)],.agg #[.int .i64 (y.1.val:Nat),.int .i64 (y.2:Nat)]] w fun e w'=>e=.returned (.int .i64 (kp x y))∧∃(q:Nat) (os:Array Obj),w'=Go.Sort.grow (w.drewN q) os:=by
 obtain⟨⟨a,ha⟩,b⟩:=x;obtain⟨⟨c,hc⟩,d⟩:=y;unfold kp;simp only;have hw:IntKind.i64.wrap ((a:Int)-(c:Int))=(a:Int)-(c:Int):=IntWalk.i64_in _ U;go_enter func124,ntmps124;go_wp2_with fail;go_ret;refine⟨rfl,0,#[.cells #[.int .i64 (a:Nat),.int .i64 (b:Nat)] 120,.cells #[.int .i64 (c:Nat),.int .i64 (d:Nat)] 120],?_⟩;rw[Go.Sort.alloc_eq_grow,Go.Sort.alloc_eq_grow,Go.Sort.grow_grow];rfl
theorem zr(blk off size:Nat)(w:World):CmpLays prog 124 #[] zP 2 kp blk off size w:=fun _ _ _ _ x y=>E3 x y _
theorem ltE(x y:i7):ltOf kp x y=decide (x.1.val<y.1.val):=by
 show decide (kp x y<0)=_;unfold kp;rw[acw];simp only[Up];omega
theorem swoE:Go.Sort.SWO (ltOf kp) where
 irrefl x:=by rw[ltE];simp
 trans x y z h1 h2:=by rw[ltE,Up] at *;omega
 ntrans x y z h1 h2:=by rw[ltE,adA] at *;omega
theorem pZ(base:Nat)(v:Value)(xs:List (Nat×Nat))(W:World)(ho:W.ownsRow base 120 2 v xs.length (ext xs))(hlen:xs.length≤1000000000)(hx:∀e∈xs,e.1<65536):
  Calls prog 123 #[v,.func (.func 124) #[] #[]] W fun e w'=>e=.returned (.tuple #[])∧(∃ys:List (Nat×Nat),ys.Perm xs∧ys.Pairwise (fun a b=>a.1≤b.1)∧Sl w' v ys.length 2 (ext ys))∧∀n₀,n₀≤base→n₀≤W.heap.size→Below n₀ W w':=by
 obtain⟨zs,hz⟩:∃zs:List i7,uJ zs=xs:=by
  clear ho hlen;induction xs with
  | nil=>exact⟨[],rfl⟩
  | cons e xs ih =>
   obtain⟨zs,hz⟩:=ih (fun y hy=>hx y (M1 _ hy))
   exact⟨(⟨e.1,hx e (Nm ..)⟩,e.2)::zs,by unfold uJ at *;rw[On,hz]⟩
 subst hz;have kG:∀zs:List i7,(uJ zs).length=zs.length:=fun zs=>by unfold uJ;rw[OK]
 rw[kG] at ho hlen;obtain⟨a,cap,rfl,CO⟩:=aY ho;rcases ho.2 with ⟨hv,h0⟩|⟨g,cap',cur,hv,hb,hg,_⟩
 ·injection hv with e1 e2 e3
  subst e1;subst e3;rw[h0];refine(xn _ W _).mono ?_;rintro e w' ⟨rfl,rfl⟩;obtain rfl:zs=[]:=OS U;exact⟨rfl,⟨[],List.Perm.nil,List.Pairwise.nil,Sl.nil _ 2⟩,fun n₀ _ _=>Below.refl _ _⟩
 ·injection hv with e1 e2 e3
  subst e1;subst e3;have hH:=Xo ho;have ay:=(ho.lt g rfl).2;have eg:∀args w,(callFunc 124 args).run prog w=.ok (.enter 124 args) w:=enters_of func124 (by kernel_rfl) rfl
  have aaQ:=AnyQ.slices_SortFunc Tryz.sortExt 2 Tryz.isAgg120 Tryz.sizeOf120 zP (fun _=>rfl) (fun x v hv=>by simp[zP] at hv;rcases hv with rfl|rfl<;>rfl) kp swoE 124 #[] g 0 cap zs.toArray W eg (zr g 0 _ W) hH ay (by simp;omega)
  have e:zs.toArray.size=zs.length:=κ;rw[e] at aaQ;change Calls prog 123 _ _ _ at aaQ;refine aaQ.mono ?_;rintro e w' ⟨rfl,d',n,os,hp,hs',rfl⟩;have bP:d'.size=zs.length:=by have:=hp.1;simpa using this
  have hK:Go.Sort.HoldsK zP 2 (sortWorldK zP 2 W g 0 n d' os) g 0 d':=holdsK_sortWorldK_c zP 2 W g 0 zs.toArray d' n os hH ay hp.1;have zA:d'.toList.Perm zs:=by
   have h2:=hp.2.2;have e1:zs.toArray.extract 0 zs.length=zs.toArray:=κ;have e2:d'.extract 0 zs.length=d':=by rw[←bP];exact Array.extract_size
   rw[e1,e2] at h2;simpa using h2
  refine⟨rfl,⟨uJ d'.toList,zA.map _,?_,?_⟩,fun n₀ h1 h2=>(Below.refl _ _).grown (U0 W g 0 n d' os) h2 (fun k hk=>by cases hk;omega)⟩
  ·unfold uJ
   rw[abp,Ts];intro i j hi hj GQ;have xR:j<d'.size:=by simpa using hj
   have pK:i<d'.size:=by simpa using hi
   have h:=hs' i j (MD _) GQ U;rw[ltE,adA,aaj d' i pK,aaj d' j xR] at h;simpa using h
  ·refine⟨by rw[jO],some ⟨g,0,none⟩,cap,by rw[kG];simp[bP],fun hn=>⟨g,0,rfl,fun j u hj=>?_⟩⟩
   have zD:j<d'.toList.length*2:=by
    have:=(Pi.1 hj).1;rwa [jO,kG] at this
   have Zq:=oS d'.toList j zD;rw[hj] at Zq;have hc:=(hK.cell (i:=j / 2) (c:=j%2) (by simp at zD;omega) U).1
   rw[acF Zq,show d'.toList.toArray=d' by simp,←hc]
   congr 2;omega
end
section
open Go.RowKit
def nJ(l:List ax):List (Nat×Nat):=l.flatMap ax.ext
theorem NW(l:List ax):aT (nJ l)=fD l:=by unfold aT nJ fD ax.bl aT;rw[List.flatMap_assoc]
theorem NY(l:List ax)(k:Nat)(h:k<l.length):nJ (l.take (k+1))=nJ (l.take k)++l[k].ext:=by
 unfold nJ;rw[M2 h,Sp,OR,V1,ON]
theorem Ka{first n:Nat}{l:List ax}(h:∀f∈l,ge first n f)(k:Nat):(nJ (l.take k)).length≤16*l.length:=by
 have:∀m:List ax,(∀f∈m,f∈l)→(nJ m).length≤16*m.length:=by
  intro m;induction m with
  | nil=>intro _;exact Ω _
  | cons f m ih =>
   intro hm;have h1:=ih (fun g hg=>hm g (M1 _ hg))
   have h2:=(h f (hm f (Nm ..))).few;unfold nJ at *;rw[OR,Δ,Mu];omega
 refine My (this _ (fun f hf=>Sf hf)) ?_
 rw[Mz];omega
theorem Kc{first n:Nat}{l:List ax}(h:∀f∈l,ge first n f):∀e∈nJ l,1≤e.2∧first≤e.1∧e.1+e.2≤n:=fun e he=>by
 obtain⟨f,hf,he⟩:=PT.1 he
 exact(h f hf).ext e he
theorem Xp{first n:Nat}{l:List ax}(h:cL first n l){ys:List (Nat×Nat)}(hp:ys.Perm (nJ l))(hs:ys.Pairwise fun a b=>a.1≤b.1)(k:Nat)(hk:k+1<ys.length):ys[k].1+ys[k].2≤ys[k+1].1:=by
 have hm:=fun (j:Nat) (hj:j<ys.length)=>Kc h.ok _ (hp.mem_iff.1 (MA hj))
 have h1:=hm k U;have h2:=hm (k+1) hk;have h3:=Ts.1 hs k (k+1) U hk (acu k);have lU:(aT ys).Nodup:=by
  have:(aT ys).Perm (aT (nJ l)):=hp.flatMap_right _;rw[NW] at this;exact this.nodup_iff.2 h.apart
 refine adY.1 (fun ay=>?_)
 have e:ys=ys.take k++ys[k]::ys[k+1]::ys.drop (k+2):=by
  conv=>lhs;rw[←PP k ys,Re (by omega:k<ys.length),Re hk]
 rw[e] at lU;unfold aT at lU;rw[Sp,OR,OR] at lU;have hd:=(R0.1 (R0.1 lU).2.1).2.2;exact hd ys[k+1].1 (To.2 U) ys[k+1].1 (No.2 (.inl (To.2 U))) rfl
theorem zl:(prog.info? 120).map (fun i=>(i.zero,i.size,i.bytes))=some (some (.agg #[.int .i64 0,.int .i64 0]),2,16):=by kernel_rfl
theorem pj(xs:List (Nat×Nat)):∀u∈ext xs,u.oneCell'=true:=by
 intro u hu;unfold ext at hu;obtain⟨e,_,he⟩:=PT.1 hu;simp at he;rcases he with rfl|rfl<;>rfl
theorem Ke(v:Value)(l:List ax)(first n:Nat)(w:World)(h:eE w v l)(hd:cL first n l)(hn:n≤4096):
  Calls prog 57 #[v,.int .i64 (first:Nat),.int .i64 (n:Nat)] w fun e w'=>e=.returned (.bool true)∧Q w w':=by
 obtain⟨i0,hi,bY,bB,aW⟩:=info_parts zl;have Co:=rq v l w h (by have:=hd.few;omega) hd.rise
 have aC:=fun (W:World) (q:Q w W)=>h.stays q
 obtain⟨a,cap,rfl,_⟩:=h.value;have pF:=hd.few;have bQ:=fun (k:Nat) (hk:k<l.length)=>hd.ok _ (MA hk)
 have nA:=fun k hk=>NY l k hk
 have fT:=fun k=>Ka hd.ok k
 have ig:=fun (W:World) (v:Value) (ho:W.ownsRow w.heap.size 120 2 v (nJ l).length (ext (nJ l)))=>pZ w.heap.size v (nJ l) W ho (by have:=fT l.length;rw[N5] at this;omega) (fun e he=>by have:=Kc hd.ok e he;omega)
 have uV:=fun ys hp hs k hk=>Xp hd (ys:=ys) hp hs k hk
 have Mc:=fun (ys:List (Nat×Nat)) (hp:ys.Perm (nJ l)) (e:Nat×Nat) (he:e∈ys)=>Kc hd.ok e (hp.mem_iff.1 he)
 have LX:=Hd Co;have aX:=Hd aC;have pq:=Hd bQ;have CQ:=Hd nA;have uN:=Hd fT;have Bo:=Hd ig;have JD:=Hd uV;have HME:=Hd Mc;clear Co aC bQ nA fT ig uV Mc h hd;have hf:¬(l.length:Int)>64:=U;have m1:max (first:Int) 0=(first:Int):=U
 have m2:min (n:Int) 4096=(n:Int):=U;go_enter func57,ntmps57;go_wp2_with fail;refine LX.out.mono ?_;rintro e w1 ⟨rfl,q1⟩;have Q1:=Hd q1;clear q1;go_wp2_with fail;go_loopw [7,25] (fun u i wr=>∃k:Nat,wr.ownsRow w.heap.size 120 2 u (nJ (l.take k)).length (ext (nJ (l.take k)))∧i=.int .i64 (k:Nat)∧k≤l.length∧Hid (Q w wr)) (fun _ i _=>l.length-(intOf i).toNat)
 case atStart=>exact⟨0,World.ownsRow_nil _ _ _ _,rfl,MD _,Q1⟩
 case round =>
  obtain⟨k,ho,rfl,hk,HQ⟩:=hrel;obtain⟨wo,rfl⟩:∃wo:World,wo=wr:=⟨_,rfl⟩;by_cases ay:k<l.length
  ·have bq:(k:Int)<(l.length:Int):=U
   have lT:(0:Int)≤(k:Int):=U;obtain⟨a',cap',e',hv⟩:=(aX.out wo HQ.out).value;cases e';obtain⟨b,off,rfl,hc⟩:=hv U;obtain⟨av,c0,c1,c2,c3,bX⟩:=hc k ay;obtain⟨ea,ecap,rfl,_⟩:=jS bX;have bQ:=pq.out k ay;have nA:=CQ.out k ay;have mG:=uN.out k;have fF:=uN.out (k+1);rw[nA] at fF;have eG:=Q.alloc wo (.cells #[ah l[k].name,.bool l[k].sl,.int .i64 (l[k].size:Nat),.slice ea l[k].ext.length ecap] 56);have bZ:=Blk.new wo 56 #[ah l[k].name,.bool l[k].sl,.int .i64 (l[k].size:Nat),.slice ea l[k].ext.length ecap];have qO:=fun W=>EH l[k].name W (by have:=Tl bQ.name;omega)
   rw[bQ.name] at qO;have dQ:=fun (W:World) (q:Q wo W)=>ts l[k] (.slice ea l[k].ext.length ecap) first n W bQ hn (bX.stays q)
   have Dx:=fun (W:World) (q:Q wo W)=>bX.stays q
   have HOW:=Hd ho;have bJ:=Hd eG;have ou:=Hd bZ;have JI:=Hd qO;have pY:=Hd dQ;have xG:=Hd Dx;have Ah:=Hd (And.intro ay (And.intro nA (And.intro mG fF)));clear ho eG bZ qO dQ Dx bX hc hv nA mG fF bQ hk;generalize Pe:l[k]=f at *;clear Pe;obtain⟨fn,fs,fz,fx⟩:=f;simp only at c0 c1 c2;go_wp2_with fail;obtain⟨b0,b1,b2,b3,_⟩:=ou.out.c4;refine(JI.out _).mono ?_;rintro e w2 ⟨rfl,q2⟩;have b0:=aj q2 b0;have b1:=aj q2 b1;have b2:=aj q2 b2;have b3:=aj q2 b3;have Q2:=Hd (bJ.out.trans q2);clear q2;go_wp2_with fail;refine(pY.out _ Q2.out).mono ?_;rintro e w3 ⟨rfl,q3⟩;have b3:=aj q3 b3;have Q3:=Hd (Q2.out.trans q3);clear q3;have HO3:=Hd (ownsRow_below HOW.out Q3.out);have HS3:=Hd (xG.out _ Q3.out);have H1:=Hd (pj fx);have H2:Hid ((nJ (l.take k)).length+fx.length≤maxLen):=Hd (by have:=Ah.out.2.2.2;rw[Δ] at this;unfold maxLen;omega)
   have H3:Hid (((nJ (l.take k)).length+fx.length)*16≤140737488355328):=Hd (by have:=Ah.out.2.2.2;rw[Δ] at this;omega)
   have H4:Hid (w.heap.size≤w3.heap.size):=Hd (HQ.out.trans Q3.out).size;go_wp2_with (at_builtin;refine fM w3 ρ _ _ 54 ρ w.heap.size 120 i0 (.agg #[.int .i64 0,.int .i64 0]) 2 16 underlying54 hi bY bB aW rfl Z _ _ _ ρ HO3.out _ _ _ ρ HS3.out H1.out H2.out H3.out H4.out ?_)
   intro v' w4 Cq lV _;have lH:=Hd (Below.grown (HQ.out.trans Q3.out) lV H4.out (fun j hj=>(HO3.out.lt j hj).1))
   have Pf:=Hd Cq;clear Cq lV;go_wp2_with fail;go_roundw;case rel=>exact⟨k+1,by rw[Ah.out.2.1,Δ,jP];exact Pf.out,by go_num,Ah.out.1,lH⟩
   case measure=>have:=Ah.out.1;simp[intOf];omega
  ·obtain rfl:k=l.length:=U
   rw[N5] at ho;obtain⟨ua,ucap,rfl,_⟩:=aY ho;have ig:=Bo.out wo _ ho;have HS:=Hd ig;clear ig ho;have Ac:(nJ l).length≤1024:=by have:=uN.out l.length;rw[N5] at this;omega
   generalize nJ l=xs at *;go_wp2_with fail;refine HS.out.mono ?_;rintro e w2 ⟨rfl,⟨ys,hp,hs,hy⟩,hb⟩;have hql:=hp.length_eq;have bJ:=Hd (Below.trans HQ.out (hb _ (Ω _) HQ.out.size));have uV:=fun k hk=>JD.out ys hp hs k hk
   have Mc:=fun (k:Nat) (hk:k<ys.length)=>HME.out ys hp _ (MA hk)
   obtain⟨_,_,e',ZH⟩:=jS hy;injection e' with e1 e2 e3;subst e1;subst e3;have Ib:ys.length≤1024:=U;generalize xs.length=m at *;subst hql;clear e2;have HP:=Hd uV;have HM:=Hd Mc;have HY:=Hd ZH;clear uV Mc ZH hp hs hy hb HS;go_wp2_with fail;go_loopw [10] (fun i wr=>∃k:Nat,i=.int .i64 ((k:Int)+1)∧(k=0∨k<ys.length)∧Hid (Q w2 wr)) (fun i _=>ys.length-(intOf i).toNat)
   case atStart=>exact⟨0,rfl,.inl rfl,Q.refl _⟩
   case round =>
    obtain⟨k,rfl,hk,V5⟩:=hrel;obtain⟨wo2,rfl⟩:∃wo:World,wo=wr:=⟨_,rfl⟩;by_cases ay:k+1<ys.length
    ·have bq:(k:Int)+1<(ys.length:Int):=U
     have lT:(0:Int)≤(k:Int):=U;have iN:(k:Int)<(ys.length:Int):=U;have Bv:(0:Int)≤(k:Int)+1:=U;have ht:((k:Int)+1).toNat=k+1:=U;have gD:IntKind.i64.wrap (k:Int)=(k:Int):=IntWalk.i64_in _ U;have hw:IntKind.i64.wrap ((k:Int)+1-1)=(k:Int):=by rw[IntWalk.i64_in _ U];omega
     obtain⟨b,off,rfl,hc⟩:=HY.out U;obtain⟨x0,x1⟩:=hc k U;obtain⟨y0,y1⟩:=hc (k+1) ay;replace x0:=aj V5.out x0;replace x1:=aj V5.out x1;replace y0:=aj V5.out y0;replace y1:=aj V5.out y1;have h1:=HP.out k ay;have h2:=HM.out k U;have h3:=HM.out (k+1) ay;have g1:IntKind.i64.wrap ((ys[k].1:Int)+(ys[k].2:Int))=(ys[k].1:Int)+(ys[k].2:Int):=IntWalk.i64_in _ U;have g2:¬(ys[k].1:Int)+(ys[k].2:Int)>(ys[k+1].1:Int):=U;have HK:=Hd (And.intro ay hk);clear hk hc h1 h2 h3;generalize ys[k+1]=y at *;generalize ys[k]=x at *;clear ay;obtain⟨xa,xc⟩:=x;obtain⟨ya,yc⟩:=y;simp only at x0 x1 y0 y1 g1 g2;go_wp2_with fail;go_quiet (fail);go_wp2_with fail;go_roundw;case rel=>exact⟨k+1,by go_num,.inr HK.out.1,V5.out.trans (Q.drewN _ _)⟩
     case measure=>have:=HK.out.1;simp[intOf];omega
    ·have bq:¬(k:Int)+1<(ys.length:Int):=U
     go_wp2_with fail;go_ret;exact⟨rfl,Below.trans bJ.out (Below.mono V5.out bJ.out.size)⟩
theorem hsum(a b:Bytes)(h:a.length+b.length≤9223372036854775807)(W:World):(Op.stringOp .add ⟨a.toArray⟩ ⟨b.toArray⟩).run prog W=.ok (ah (a++b)) W:=by
 rw[run_string_add_sum W _ _ (by simpa[ByteArray.size] using h),bytes_append]
theorem AL(n:Nat)(w:World)(hn:n<9223372036854775808):Calls prog 205 #[.int .i64 (n:Nat)] w fun e w'=>e=.returned (ah (dN n))∧Q w w':=by
 have hq:=Q.alloc w (.cells #[.int .u64 (n:Nat)] 134);have hv:=nB (.slice (some ⟨w.heap.size,0,none⟩) 1 1) [n] (w.alloc (.cells #[.int .u64 (n:Nat)] 134)) (Sl.lit w #[.int .u64 (n:Nat)] 134 1 1 rfl) κ (by simp;omega)
 have e:qU [n]=dN n:=by simp[qU]
 rw[e] at hv;have hw:IntKind.u64.wrap (n:Int)=(n:Int):=by simp[IntKind.wrap,IntKind.bits,IntKind.signed];omega
 have HV:=Hd hv;have HQ:=Hd hq;clear hv hq e;generalize dN n=s at *;go_enter func205,ntmps205;go_wp2_with fail;refine HV.out.mono ?_;rintro e w1 ⟨rfl,q⟩;have Q1:=Hd (HQ.out.trans q);clear q;go_wp2_with fail;go_ret;exact⟨rfl,Q1.out⟩
theorem sR(s:Bytes)(w:World)(B:Nat)(hb:Blk w B 9 #[ah s])(hs:s.length≤1000000):Calls prog 206 #[.slice (some ⟨B,0,none⟩) 1 1] w fun e w'=>e=.returned (ah (qR s))∧Q w w':=by
 have e:oG [s]=qR s:=by simp[oG]
 rw[←e];exact Cl (.slice (some ⟨B,0,none⟩) 1 1) [s] w ⟨rfl,_,_,rfl,fun _=>⟨B,0,rfl,fun j u hj=>by rw[PF];exact hb.cell j u (by simpa using hj)⟩⟩ κ (by simp;omega)
def vO(x:List (Nat×Nat)):Bytes:=x.flatMap fun e=>dN e.1++dN e.2
theorem QT(x:List (Nat×Nat)):(vO x).length≤20*x.length:=by
 induction x with
 | nil=>exact Ω _
 | cons e x ih =>
  have h1:=iJ e.1;have h2:=iJ e.2;unfold vO at *;rw[OR,Δ,Δ,Mu];omega
theorem ue(x:List (Nat×Nat))(k:Nat)(h:k<x.length):vO (x.take (k+1))=vO (x.take k)++(dN x[k].1++dN x[k].2):=by
 unfold vO;rw[M2 h,Sp,OR,V1,ON]
def lz(f:ax):Bytes:=qR f.name++dN (if f.sl then 1 else 0)++dN f.size++dN f.ext.length
theorem Kh(f:ax):Av f=lz f++vO f.ext:=rfl
def uK(l:List ax)(k:Nat):Bytes:=[67,68,88,73]++dN l.length++(l.take k).flatMap Av
theorem Xq(l:List ax)(k:Nat)(h:k<l.length):uK l (k+1)=uK l k++lz l[k]++vO l[k].ext:=by
 unfold uK;rw[M2 h,Sp,OR,V1,ON,Kh];simp
theorem NZ(l:List ax):uK l l.length=je l:=by unfold uK je;rw[N5]
theorem N7{l:List ax}(h:∀f∈l,f.name.length≤24∧f.ext.length≤16)(k:Nat):(uK l k).length≤14+400*l.length:=by
 have hm:∀m:List ax,(∀f∈m,f∈l)→(m.flatMap Av).length≤400*m.length:=by
  intro m;induction m with
  | nil=>intro _;exact Ω _
  | cons f m ih =>
   intro hs;have h1:=ih (fun g hg=>hs g (M1 _ hg))
   have h2:=h f (hs f (Nm ..));have h3:=FT f.name;have h4:=iJ (if f.sl then 1 else 0);have h5:=iJ f.size;have h6:=iJ f.ext.length;have h7:=QT f.ext
   rw[OR,Δ,Mu,Kh];unfold lz;simp only[Δ];omega
 have h1:=hm (l.take k) (fun f hf=>Sf hf)
 have h2:=iJ l.length;have h3:(l.take k).length≤l.length:=by rw[Mz];omega
 unfold uK;simp only[Δ,Mu,OF];omega
theorem QV(v:Value)(l:List ax)(w:World)(h:eE w v l)(hl:l.length≤64)(hf:∀f∈l,f.name.length≤24∧f.ext.length≤16∧f.size≤2147483647∧∀e∈f.ext,e.1≤4096∧e.2≤4096):
  Calls prog 117 #[v] w fun e w'=>e=.returned (ah (je l))∧Q w w':=by
 obtain⟨a,cap,rfl,aC⟩:=h.value;have fT:=fun k=>N7 (l:=l) (fun f hx=>⟨(hf f hx).1,(hf f hx).2.1⟩) k
 have nA:=fun k hk=>Xq l k hk
 have hff:=fun (k:Nat) (hk:k<l.length)=>hf _ (MA hk)
 have nM:=BL.new w w (Q.refl w);have qO:=fun W=>AL l.length W U
 have hall:=NZ l;have h0:uK l 0=[67,68,88,73]++dN l.length:=by unfold uK;rw[TE];simp
 have wO:=hsum [67,68,88,73] (dN l.length) (by have:=iJ l.length;simp only[Mu,OF];omega)
 rw[←h0] at wO;have aX:=Hd aC;have uN:=Hd fT;have CQ:=Hd nA;have og:=Hd hff;have vU:=Hd nM;have JI:=Hd qO;have aiC:=Hd hall;clear aC fT nA hff nM qO hall h0 h hf;generalize dN l.length=vn at *;generalize hh0:uK l 0=h0 at *;have HH0:=Hd hh0;clear hh0;go_enter func117,ntmps117;go_wp2_with fail;refine(JI.out _).mono ?_;rintro e w1 ⟨rfl,q1⟩;have hb1:=vU.out.q q1;have eO:=hb1.write h0 (by have:=uN.out 0;rw[HH0.out] at this;simp only[OF];omega)
 have BD:=Hd eO;clear hb1 eO q1;go_wp2_with fail;refine BD.out.mono ?_;rintro e w2 ⟨rfl,bN,_⟩;rw[Pr,←HH0.out] at bN;have qC:=Hd bN;clear bN;go_wp2_with fail;go_loopw [16] (fun i wr=>∃k:Nat,i=.int .i64 (k:Nat)∧k≤l.length∧Hid (BL w wr w.heap.size (uK l k))) (fun i _=>l.length-(intOf i).toNat)
 case atStart=>exact⟨0,rfl,MD _,qC⟩
 case round =>
  obtain⟨k,rfl,hk,HB⟩:=hrel;obtain⟨wo,rfl⟩:∃wo:World,wo=wr:=⟨_,rfl⟩;by_cases ay:k<l.length
  ·have bq:(k:Int)<(l.length:Int):=U
   have lT:(0:Int)≤(k:Int):=U;obtain⟨b,off,rfl,hc⟩:=aX.out U;obtain⟨av,c0,c1,c2,c3,bX⟩:=hc k ay;obtain⟨ea,ecap,rfl,hex⟩:=jS bX;replace c0:=aj HB.out.2 c0;replace c1:=aj HB.out.2 c1;replace c2:=aj HB.out.2 c2;replace c3:=aj HB.out.2 c3;obtain⟨f1,f2,f3,f4⟩:=og.out k ay;have nA:=CQ.out k ay;have mG:=uN.out k;have fF:=uN.out (k+1);rw[nA] at fF;have eG:=Q.alloc wo (.cells #[ah l[k].name,.bool l[k].sl,.int .i64 (l[k].size:Nat),.slice ea l[k].ext.length ecap] 56);have bZ:=Blk.new wo 56 #[ah l[k].name,.bool l[k].sl,.int .i64 (l[k].size:Nat),.slice ea l[k].ext.length ecap];have dZ:=HB.out.q eG;generalize dO:wo.alloc (.cells #[ah l[k].name,.bool l[k].sl,.int .i64 (l[k].size:Nat),.slice ea l[k].ext.length ecap] 56)=wa at *;simp only[Δ] at fF;unfold lz at nA fF;simp only[Δ] at fF;have bJ:=Hd eG;have ou:=Hd bZ;have iV:=Hd dZ;have BF:=Hd hex;clear eG bZ dZ hex hc bX hk;generalize Pe:l[k]=f at *;clear Pe;obtain⟨fn,fs,fz,fx⟩:=f;simp only at c0 c1 c2 c3 f1 f2 f3 f4 fF nA dO;generalize nN:uK l k=pre at *;obtain⟨sn,kr⟩:∃sn:Nat,sn=if fs then 1 else 0:=⟨_,rfl⟩
   rw[←kr] at nA fF;obtain⟨si,hsi⟩:∃si:Int,si=(sn:Nat):=⟨_,rfl⟩;have n1:=fun W=>AL sn W (by rw[kr];split<;>decide)
   rw[←hsi] at n1;have n2:=fun W=>AL fz W U
   have n3:=fun W=>AL fx.length W U
   have n4:=fun W B hb=>sR fn W B hb U
   have mR:=ue fx;have nS:=fun k=>QT (fx.take k)
   generalize qR fn=tn at *;generalize dN sn=v1 at *;generalize dN fz=v2 at *;generalize dN fx.length=v3 at *;have s1:=hsum tn v1 U;have s2:=hsum (tn++v1) v2 (by rw[Δ];omega)
   have s3:=hsum (tn++v1++v2) v3 (by simp only[Δ];omega)
   have ad6:(tn++v1++v2++v3).length≤100000:=by simp only[Δ];omega
   generalize tn++v1=y1 at *;generalize y1++v2=y2 at *;generalize hy3:y2++v3=y3 at *;have jB:=fun (W:World) (q:Q wa W)=>(iV.out.q q).write y3 U
   have N1:=Hd n1;have N2:=Hd n2;have N3:=Hd n3;have N4:=Hd n4;have WR:=Hd jB;have wL:=Hd mR;have HTL:=Hd nS;have Ah:=Hd (And.intro ay (And.intro nA (And.intro mG ad6)));have HF4:=Hd f4;clear n1 n2 n3 n4 jB mR nS ay nA mG fF f4 hy3 ad6;obtain⟨b0,b1,b2,b3,_⟩:=ou.out.c4;have KK:=Hd (Q.refl wa);have GG:=Hd trivial;cases fs;all_goals
    simp only[QQ,PR,N0] at kr;subst kr;simp only[Int.natCast_zero,Int.natCast_one,ac2] at hsi;subst hsi;go_wp2_with fail
    (go_region_held3 (fun w'=>w'.cell? ⟨wo.heap.size,0,none⟩=some (ah fn)∧w'.cell? ⟨wo.heap.size,2,none⟩=some (.int .i64 (fz:Nat))∧w'.cell? ⟨wo.heap.size,3,none⟩=some (.slice ea fx.length ecap))
     (first|exact g0|exact⟨b0,b2,b3⟩|exact three δ b0 b2 b3)
     (first
      | (go_at_call 205;(first|with_reducible refine(N1.out _).mono ?_|with_reducible refine(N2.out _).mono ?_|with_reducible refine(N3.out _).mono ?_);rintro e w3 ⟨rfl,q3⟩;have s':Q wa w3:=Q.trans ω q3;clear KK;have KK:=Hd s';clear s' q3)
      | (go_at_call 206;with_reducible refine(N4.out _ _ (by first|exact Blk.new _ _ _|exact(Blk.new _ _ _).stays (Q.drew _)|exact(Blk.new _ _ _).stays ((Q.drew _).trans (Q.drew _))|exact(Blk.new _ _ _).stays (((Q.drew _).trans (Q.drew _)).trans (Q.drew _)))).mono ?_;rintro e w3 ⟨rfl,q3⟩;have s':Q wa w3:=Q.trans ω q3;clear KK;have KK:=Hd s';clear s' q3)
      | (go_at_call 52;with_reducible refine(WR.out _ ω).mono ?_;rintro e w5 ⟨rfl,h5,g5⟩;have bx5:=g5 _ _ _ (ou.out.stays ω) Z Z;have g0:=And.intro bx5.c4.1 (And.intro bx5.c4.2.2.1 bx5.c4.2.2.2.1);have H5:=Hd h5;clear h5 g5 bx5)))
    all_goals
     obtain⟨_,_,g3⟩:=g0;clear b0 b1 b2 b3;go_wp2_with fail;go_loopw [42] (fun i wr=>∃m:Nat,i=.int .i64 (m:Nat)∧m≤fx.length∧Hid (BL w wr w.heap.size (pre++y3++vO (fx.take m)))) (fun i _=>fx.length-(intOf i).toNat)
     case atStart=>exact⟨0,rfl,MD _,by rw[TE,show vO []=[] from rfl,ON];exact H5⟩
     case round =>
      obtain⟨m,rfl,hm,HM⟩:=hrel;obtain⟨wi,rfl⟩:∃wi:World,wi=wr:=⟨_,rfl⟩;by_cases ny:m<fx.length
      ·have Tz:(m:Int)<(fx.length:Int):=U
       have JH:(0:Int)≤(m:Int):=U;obtain⟨eb,eoff,rfl,ZM⟩:=BF.out U;obtain⟨x0,x1⟩:=ZM m ny;replace x0:=aj HM.out.2 x0;replace x1:=aj HM.out.2 x1;have h4:=HF4.out _ (MA ny);have Cr:=Q.alloc wi (.cells #[.int .i64 (fx[m].1:Nat),.int .i64 (fx[m].2:Nat)] 120);have gI:=Blk.new wi 120 #[.int .i64 (fx[m].1:Nat),.int .i64 (fx[m].2:Nat)];have Pj:=HM.out.q Cr;have mR:=wL.out m ny;have nS:=HTL.out m;have TG:=HTL.out (m+1);rw[mR] at TG;simp only[Δ] at TG;have Ib:y3.length+pre.length≤200000:=by have h8:=Ah.out.2.2.1;have h9:=Ah.out.2.2.2;omega
       have kH:(fx.take m).length≤16:=by rw[Mz];omega
       have aiD:(fx.take (m+1)).length≤16:=by rw[Mz];omega
       generalize rV:wi.alloc (.cells #[.int .i64 (fx[m].1:Nat),.int .i64 (fx[m].2:Nat)] 120)=wb at *;have p1:=fun W=>AL fx[m].1 W U
       have p2:=fun W=>AL fx[m].2 W U
       obtain⟨d0,d1,_⟩:=gI.c2;clear ZM h4 Cr gI;generalize fx[m]=e at *;obtain⟨ea,ec⟩:=e;simp only at x0 x1 d0 d1 p1 p2 mR rV TG;generalize dN ea=r1 at *;generalize dN ec=r2 at *;have ss:=hsum r1 r2 U;have zu:=fun (W:World) (q:Q wb W)=>(Pj.q q).write (r1++r2) (by simp only[Δ];omega)
       rw[MY,←mR] at zu;generalize r1++r2=r3 at *;have P1:=Hd p1;have P2:=Hd p2;have W3:=Hd zu;have HMT:=Hd ny;clear p1 p2 zu mR nS TG Ib kH aiD ny Pj hm;have K2:=Hd (Q.refl wb);go_wp2_with fail
       (go_region_held3 (fun w'=>w'.cell? ⟨wi.heap.size,0,none⟩=some (.int .i64 (ea:Nat))∧w'.cell? ⟨wi.heap.size,1,none⟩=some (.int .i64 (ec:Nat)))
        (first|exact gg0|exact⟨d0,d1⟩|exact two (by repeat (first|with_reducible exact K2.out|with_reducible exact Q.refl _|with_reducible apply Qs.dr|with_reducible apply Qs.al)) d0 d1)
        (first
         | (go_at_call 205;(first|with_reducible refine(P1.out _).mono ?_|with_reducible refine(P2.out _).mono ?_);rintro e w3 ⟨rfl,q3⟩;have s':Q wb w3:=Q.trans (by repeat (first|with_reducible exact K2.out|with_reducible apply Qs.dr|with_reducible apply Qs.al)) q3;clear K2;have K2:=Hd s';clear s' q3)
         | (go_at_call 52;with_reducible refine(W3.out _ (by repeat (first|with_reducible exact K2.out|with_reducible apply Qs.dr|with_reducible apply Qs.al))).mono ?_;rintro e w6 ⟨rfl,h6,g6⟩;have bx6:=g6 _ _ _ ((rV▸Blk.new wi 120 #[.int .i64 (ea:Nat),.int .i64 (ec:Nat)]:Blk wb wi.heap.size 120 #[.int .i64 (ea:Nat),.int .i64 (ec:Nat)]).stays (by repeat (first|with_reducible exact K2.out|with_reducible apply Qs.dr|with_reducible apply Qs.al))) Z Z;have gg0:=And.intro bx6.c2.1 bx6.c2.2.1;have H6:=Hd h6;clear h6 g6 bx6)))
       all_goals
        go_wp2_with fail;go_roundw;case rel=>exact⟨m+1,by go_num,HMT.out,H6⟩
        case measure=>have:=HMT.out;simp[intOf];omega
      ·obtain rfl:m=fx.length:=U
       have HN:=Hd (show uK l (k+1)=pre++y3++vO fx from Ah.out.2.1)
       go_wp2_with fail;go_roundw;case rel=>exact⟨k+1,by go_num,Ah.out.1,by rw[HN.out];have:=HM.out;rw[N5] at this;exact this⟩
       case measure=>have:=Ah.out.1;simp[intOf];omega
  ·obtain rfl:k=l.length:=U
   have hs:=HB.out.str;rw[aiC.out] at hs;have HS:=Hd hs;clear hs;generalize gV:je l=dl at *;have HDL:=Hd gV;clear gV;go_wp2_with fail;refine HS.out.mono ?_;rintro e w3 ⟨rfl,q3⟩;have Q3:=Hd q3;clear q3;go_wp2_with fail;go_ret;exact⟨I2 HDL.out.symm,Q3.out⟩
theorem oB(c:Nat):Lib.repeatL [0] c=bg c:=by
 induction c with
 | zero=>rfl
 | succ c ih=>rw[Lib.repeatL,ih];rfl
theorem zm{first n:Nat}{l:List ax}(h:cL first n l)(hn:n≤4096):∀f∈l,f.name.length≤24∧f.ext.length≤16∧f.size≤2147483647∧∀e∈f.ext,e.1≤4096∧e.2≤4096:=fun f hf=>by
 have ho:=h.ok f hf
 have qO:=Tl ho.name
 exact⟨qO.2.1,ho.few,ho.size,fun e he=>by have:=ho.ext e he;omega⟩
theorem QZ{first n:Nat}{l:List ax}(h:cL first n l)(hn:n≤4096):(je l).length≤30000:=by
 have h1:=N7 (l:=l) (fun f hf=>⟨(zm h hn f hf).1,(zm h hn f hf).2.1⟩) l.length
 rw[NZ] at h1;have:=h.few;omega
theorem Hs(v:Value)(l:List ax)(first n:Nat)(w:World)(h:eE w v l)(hd:cL first n l)(hn:n≤4096):
  Calls prog 182 #[v] w fun e w'=>e=.returned (.tuple #[ah (if iA l then bR l else []),.int .i64 (if iA l then 0 else 5)])∧Q w w':=by
 have gV:=QZ hd hn;have zM:=Ke v l 0 4096 w h (hd.wide (MD _) hn) (Ω _);have iT:=fun (W:World) (q:Q w W)=>QV v l W (h.stays q) hd.few (zm hd hn)
 have eP:iA l=decide ((je l).length+4≤3072):=by unfold iA ix;rw[Δ,aH]
 have fV:bR l=(je l++aB (fU (je l)))++bg (3072-((je l).length+4)):=by unfold bR ix;rw[Δ,aH]
 obtain⟨a,cap,rfl,_⟩:=h.value;rw[eP,fV];have nU:=fun (W:World) (B:Nat) (hb:Blk W B 9 #[ah (je l)])=>MK (.slice (some ⟨B,0,none⟩) 1 1) [je l] W ⟨rfl,_,_,rfl,fun _=>⟨B,0,rfl,fun j u hj=>by rw[PF];exact hb.cell j u (by simpa using hj)⟩⟩ κ (by simp;omega)
 simp only[VS,ace,ON] at nU;have xK:=fun (W:World)=>vY (fU (je l)) W (yA _)
 have O3:=hsum (je l) (aB (fU (je l))) (by rw[aH];omega)
 have kG:(aB (fU (je l))).length=4:=aH _;have iP:=fun (W:World) (c:Nat) (hc:c≤3072)=>Tryz.strings_Repeat ⟨#[0]⟩ c W U (by show 1*c≤_;omega)
 simp only[oB] at iP;have bP:=fun (c:Nat) (hc:c≤3072)=>hsum (je l++aB (fU (je l))) (bg c) (by rw[Δ,fC,aH];omega)
 clear eP fV h hd;generalize fU (je l)=cr at *;generalize je l=d at *;generalize aB cr=fx at *;have bX:(d++fx).length=d.length+4:=by rw[Δ,kG]
 have Mt:=Hd zM;have Ic:=Hd iT;have xZ:=Hd nU;have Si:=Hd xK;have Hw:=Hd iP;have xG:=Hd bX;have mD:=Hd bP;clear zM iT nU xK iP kG bP;generalize hs:d++fx=s at *;clear hs;generalize kS:(if decide (d.length+4≤3072)=true then s++bg (3072-(d.length+4)) else [])=rs at *
 generalize ug:(if decide (d.length+4≤3072)=true then(0:Int) else 5)=re at *
 have xO:=Hd kS;have Ie:=Hd ug;clear kS ug;go_enter func182,ntmps182;go_wp2_with fail;refine Mt.out.mono ?_;rintro e w1 ⟨rfl,q1⟩;have Q1:=Hd q1;clear q1;go_wp2_with fail;refine(Ic.out _ Q1.out).mono ?_;rintro e w2 ⟨rfl,q2⟩;have Q2:=Hd (Q1.out.trans q2);clear q2;go_wp2_with fail;refine(xZ.out _ _ (Blk.new _ _ _)).mono ?_;rintro e w3 ⟨rfl,rfl⟩;go_wp2_with fail;refine(Si.out _).mono ?_;rintro e w4 ⟨rfl,q4⟩;have Q4:=Hd ((Q2.out.trans (Q.alloc _ _)).trans q4);clear q4;by_cases hf:d.length+4≤3072
 ·have h1:¬(s.length:Int)>3072:=by rw[bX];omega
  have e1:IntKind.i64.wrap (3072-(s.length:Int))=((3072-(d.length+4):Nat):Int):=by rw[IntWalk.i64_in _ (by rw[bX];omega),bX];omega
  have r1:=xO.out;have r2:=Ie.out;rw[NO hf,Φ rfl] at r1 r2;have R1:=Hd r1;have R2:=Hd r2;clear r1 r2;have hr:=fun W=>Hw.out W (3072-(d.length+4)) U
  have hz:=mD.out (3072-(d.length+4)) U;have HR:=Hd hr;clear hr hf bX;generalize hc:3072-(d.length+4)=c at *;have HC:=Hd hc;clear hc;go_wp2_with fail;refine(HR.out _).mono ?_;rintro e w5 ⟨rfl,q5⟩;have Q5:=Hd (Q4.out.trans q5);clear q5;go_wp2_with fail;go_returns;exact⟨by rw[←R1.out,←R2.out];rfl,Q5.out⟩
 ·have h1:(s.length:Int)>3072:=by rw[bX];omega
  have r1:=xO.out;have r2:=Ie.out;rw[Nx hf,η Z] at r1 r2;have R1:=Hd r1;have R2:=Hd r2;clear r1 r2;clear hf bX;go_wp2_with fail;go_returns;exact⟨by rw[←R1.out,←R2.out];rfl,Q4.out⟩
end
section
open Go.RowKit
theorem cg.lA{w:World}{F:Nat→Prop}{sb b:Nat}{σ:StL}{K:Nat}(h:cg w F sb b σ K)(hn:σ.n≤4096):Calls prog 51 #[au sb] w fun e w'=>e=.returned (.int .i64 (ak σ.n:Nat))∧w=w':=by
 obtain⟨FJ,FC,p,cb,tb,most,clock,ms,mb,m,ti,hg,_⟩:=h;exact Ew hg hn
theorem cg.hfree{w:World}{F:Nat→Prop}{sb b:Nat}{σ:StL}{K:Nat}(h:cg w F sb b σ K)(hn:iL σ):Calls prog 62 #[au sb] w fun e w'=>e=.returned (.int .i64 (σ.free:Nat))∧Q w w':=by
 obtain⟨FJ,FC,p,cb,tb,most,clock,ms,mb,m,ti,hg,_⟩:=h;exact tB hg hn
theorem cg.me{w:World}{F:Nat→Prop}{sb b:Nat}{σ:StL}{K:Nat}(h:cg w F sb b σ K):Calls prog 32 #[au b] w fun e w'=>e=.returned (.bool σ.dead)∧w=w':=by
 obtain⟨FJ,FC,p,cb,tb,most,clock,ms,mb,m,ti,hg,_⟩:=h;exact JQ w FJ b σ.j.d hg.jr.dev
section
variable {w w':World} {F:Nat→Prop} {fb sb b:Nat} {φ:FsL} {K:Nat} {v:Value}
theorem wB(s:Bytes)(h:FsG w F fb sb b φ K v)(mU:φ.st.dead=false→φ.l.length≤1000000∧φ.l.Pairwise fun a b=>a.name<b.name):
  Calls prog 42 #[au fb,ah s] w fun e w'=>e=.returned (.tuple (if φ.st.dead then #[.int .i64 0,.int .i64 4] else if isF φ.l s then #[.int .i64 (aA φ.l s:Nat),.int .i64 0] else #[.int .i64 0,.int .i64 10]))∧Q w w':=by
 have hd:=h.st.me;have hf:=fun e=>J8 v φ.l s w h.files.s (mU e).1 (mU e).2
 obtain⟨c0,c1,c2,c3,_⟩:=h.box.c4;obtain⟨a,cap,rfl,_⟩:=h.files.s.value;have HD:=Hd hd;have HF:=Hd hf;clear hd hf h mU;generalize φ.st.dead=dd at *;generalize aA φ.l s=pl at *;generalize isF φ.l s=ok at *;go_enter func42,ntmps42;go_wp2_with fail;refine HD.out.mono ?_;rintro e w1 ⟨rfl,rfl⟩;cases dd with
 | true =>
  go_wp2_with fail;go_returns;exact⟨rfl,Q.refl _⟩
 | false =>
  go_wp2_with fail;refine(HF.out trivial).mono ?_;rintro e w2 ⟨rfl,q2⟩;have Q2:=Hd q2;clear q2;cases ok;all_goals
   go_wp2_with fail;go_returns;exact⟨rfl,Q2.out⟩
end
end
section
open Go.RowKit
def FsL.wr(φ:FsL)(l:List ax):FsL:=⟨(φ.st.dir φ.packed l).1,if iA l then l else φ.l,if iA l then bR l else φ.packed⟩
section
variable {w w':World} {F:Nat→Prop} {fb sb b:Nat} {φ:FsL} {K:Nat} {v:Value}
def FsK(w w':World)(F:Nat→Prop)(fb sb b:Nat)(φ:FsL)(K:Nat)(v:Value):Prop:=∃G:Nat→Prop,FsG w' G fb sb b φ K v∧(∀k,G k→grow F w w' k)∧ae (own F fb) w w'
theorem FsK.of(h:FsG w F fb sb b φ K v):FsK w w F fb sb b φ K v:=⟨F,h,fun k hk=>.inl hk,ae.refl _ _⟩
theorem FsK.r(h:FsK w w' F fb sb b φ K v):FsR w w' F fb sb b φ K:=by
 obtain⟨G,h1,h2,h3⟩:=h;exact⟨G,⟨v,h1⟩,h2,h3⟩
theorem FsK.q{w2:World}(h:FsK w w' F fb sb b φ K v)(q:Q w' w2):FsK w w2 F fb sb b φ K v:=by
 obtain⟨G,h1,h2,h3⟩:=h;exact⟨G,h1.keep q,fun k hk=>(h2 k hk).imp id fun hk=>⟨hk.1,Ψ hk.2 q.size⟩,h3.trans (ae.br q)⟩
theorem FsK.mono{K':Nat}(h:FsK w w' F fb sb b φ K v)(hk:K≤K'):FsK w w' F fb sb b φ K' v:=by
 obtain⟨G,h1,h2,h3⟩:=h;exact⟨G,⟨h1.st.mono (fun _ x=>x) h1.st.lt hk,h1.box,h1.nb,h1.files⟩,h2,h3⟩
theorem FsK.cells(h:FsK w w' F fb sb b φ K v):w'.cell? ⟨fb,0,none⟩=some (au sb)∧w'.cell? ⟨fb,1,none⟩=some (au b)∧w'.cell? ⟨fb,2,none⟩=some v∧w'.cell? ⟨fb,3,none⟩=some (ah φ.packed):=by
 obtain⟨G,h1,_⟩:=h;obtain⟨c0,c1,c2,c3,_⟩:=h1.box.c4;exact⟨c0,c1,c2,c3⟩
theorem FsG.moved{G:Nat→Prop}{v':Value}{l:List ax}(h2:∀k,G k→grow F w w' k)(h3:ae (own F fb) w w')(hv:cn (fun k=>¬own F fb k) w v' l):cn (fun k=>¬own G fb k) w' v' l:=by
 refine((hv.mono (R:=fun k=>¬own F fb k∧k<w.heap.size) (fun k h1 h2=>⟨h1,h2⟩)).bh h3 (fun k hk=>hk.1)).mono (fun k hk _ hc=>?_)
 rcases hc with hc|hc
 ·rcases h2 k hc with hc|hc
  ·exact hk.1 (.inl hc)
  ·have:=hk.2;omega
 ·exact hk.1 (.inr hc)
theorem FsK.call(h:FsK w w' F fb sb b φ K v){σ':StL}{K':Nat}{P:Ending→Prop}{f:FuncId}{av:Array Value}
  (hc:∀(G:Nat→Prop),cg w' G sb b φ.st K→Calls prog f av w' fun e w2=>P e∧cg w2 (grow G w' w2) sb b σ' K'∧ae G w' w2) :
  Calls prog f av w' fun e w2=>P e∧FsK w w2 F fb sb b { φ with st:=σ' } K' v:=by
 obtain⟨G,h1,h2,h3⟩:=h;refine(hc G h1.st).mono fun e w2 hr=>⟨hr.1,?_⟩
 have hs:=h3.size;have jm:=hr.2.2.size;refine⟨_,h1.call hr.2.1 hr.2.2,fun k hk=>?_,⟨hr.2.2.os.trans h3.os,hr.2.2.tape.trans h3.tape,hr.2.2.output.trans h3.output,My hs jm,fun k hk hn=>?_⟩⟩
 ·rcases hk with hk|hk
  ·exact(h2 k hk).imp id fun hk=>⟨hk.1,U⟩
  ·exact .inr ⟨U,hk.2⟩
 ·refine(hr.2.2.block k U (fun hc=>?_)).trans (h3.block k hk hn)
  rcases h2 k hc with hc|hc
  ·exact hn (.inl hc)
  ·omega
end
theorem btl(s:Bytes):(⟨s.toArray⟩:ByteArray).toList=s:=κ
theorem Aw(w:World)(F:Nat→Prop)(fb sb b:Nat)(φ:FsL)(K:Nat)(v:Value)(lv:Value)(l:List ax){KI first:Nat}{fr:List (List WrL)}{C:Nat→Bytes}(h:FsG w F fb sb b φ K v)(hl:cn (fun k=>¬own F fb k) w lv l)(hd:cL first φ.st.n l)(hs:eI KI φ.st fr C)(gM:KI<18446744073709551616)
  (hp:φ.packed=[]∨φ.packed.length=3072) (hK:K+20≤1000000000000000000) :
  Calls prog 96 #[au fb,lv] w fun e w'=>e=.returned (.int .i64 (φ.st.dir φ.packed l).2)∧FsR w w' F fb sb b (φ.wr l) (K+12):=by
 have iH:=hs.st.max;have fV:=Hs lv l first φ.st.n w hl.s hd iH
 obtain⟨la,lcap,rfl,_⟩:=hl.s.value;have lS:∀hf:iA l=true,φ.st.dir φ.packed l=((φ.st.writes (vL φ.st.n φ.packed (bR l))).1,0):=fun hf=>by
  unfold StL.dir;rw[Φ hf];exact Prod.ext rfl (Gq hs _ _ (kg hf))
 have nP:=fun (hf:iA l=true) k hk=>NU hs gM φ.packed (bR l) (kg hf) k hk
 have hlen:=fun (hf:iA l=true)=>kg hf
 cases hf:iA l with
 | false =>
  have e:φ.wr l=φ∧(φ.st.dir φ.packed l).2=9:=by unfold FsL.wr StL.dir;rw[hf];exact⟨rfl,rfl⟩
  rw[e.1,e.2];rw[hf] at fV;have H0:=Hd (FsK.of h);have kY:=Hd fV;clear fV nP hlen lS hl hd hs h e;go_enter func96,ntmps96;go_wp2_with fail;refine kY.out.mono ?_;rintro e w1 ⟨rfl,q1⟩;have Q1:=Hd q1;clear q1;go_wp2_with fail;go_ret;exact⟨rfl,((H0.out.q Q1.out).mono U).r⟩
 | true =>
  have e:φ.wr l=⟨(φ.st.writes (vL φ.st.n φ.packed (bR l))).1,l,bR l⟩:=by unfold FsL.wr;rw[lS hf,Φ hf,Φ hf]
  rw[e,lS hf];rw[hf,Φ rfl,Φ rfl] at fV;replace nP:=nP hf;replace hlen:=hlen hf;have Fy:=fun (k:Nat) (hk:k<12)=>ni hlen hk
  have hex:∀s:Bytes,∀k:Nat,({ data:=s.toArray }:ByteArray).extract (k*256) ((k+1)*256)=⟨(aG s k).toArray⟩:=fun s k=>by rw[eY,show(k+1)*256-k*256=256 by omega];rfl
  have lK:ak φ.st.n≤4096:=by have:=hs.room;omega
  have H0:=Hd (FsK.of h);have kY:=Hd fV;have TH:=Hd nP;have xM:=Hd hl;have Tv:=Hd Fy;have BF:=Hd hex;clear fV nP lS hl hd hs h e hf Fy hex;generalize bR l=t at *;go_enter func96,ntmps96;go_wp2_with fail;refine kY.out.mono ?_;rintro e w1 ⟨rfl,q1⟩;have H1:=Hd (H0.out.q q1);clear q1;go_wp2_with fail;go_loopw [18] (fun i wr=>∃k:Nat,i=.int .i64 (k:Nat)∧k≤12∧Hid (FsK w wr F fb sb b { φ with st:=(φ.st.writes (iZ φ.st.n φ.packed t k)).1 } (K+k) v)) (fun i _=>12-(intOf i).toNat)
  case atStart=>exact⟨0,rfl,MD _,H1⟩
  case round =>
   obtain⟨k,rfl,hk,HK⟩:=hrel;by_cases ay:k<12
   ·have bq:(k:Int)<12:=U
    have lT:(0:Int)≤(k:Int):=U;have e4:IntKind.i64.wrap ((ak φ.st.n:Int)+(k:Int))=(ak φ.st.n:Int)+(k:Int):=by rw[IntWalk.i64_in _ U]
    obtain⟨r1,r2,r3,r4,r5⟩:=TH.out k ay;obtain⟨c0,c1,c2,c3⟩:=HK.out.cells;have e5:((k:Int)*256)≤(((k:Int)+1)*256):=U;have e6:(0:Int)≤((k:Int)*256):=U;have e7:(((k:Int)+1)*256)≤(t.length:Int):=U;have e9:(0:Int)≤((k:Int)+1)*256:=U;have e10:((k:Int)+1)*256≤3072:=U;have e11:(k:Int)≤(k:Int)+1:=U;have x1:=BF.out t k;have x2:=BF.out φ.packed k;simp only[] at c3;by_cases hc:φ.packed=[]∨aG φ.packed k≠aG t k
    ·obtain⟨r6,r7⟩:=r5 hc
     have eP:∀W:World,FsK w W F fb sb b { φ with st:=(φ.st.writes (iZ φ.st.n φ.packed t k)).1 } (K+k) v→Calls prog 51 #[au sb] W fun e w'=>e=.returned (.int .i64 (ak φ.st.n:Nat))∧W=w':=fun W q=>by
      obtain⟨G,h1,_⟩:=q;have:=h1.st.lA r2.max;rwa [show({ φ with st:=(φ.st.writes (iZ φ.st.n φ.packed t k)).1 }:FsL).st.n=φ.st.n from r3] at this
     have jB:∀W:World,FsK w W F fb sb b { φ with st:=(φ.st.writes (iZ φ.st.n φ.packed t k)).1 } (K+k) v→Calls prog 100 #[au sb,.int .i64 ((ak φ.st.n:Int)+(k:Int)),.string (({ data:=t.toArray }:ByteArray).extract ((k:Int)*256).toNat (((k:Int)+1)*256).toNat)] W fun e w'=>e=.returned (.int .i64 0)∧FsK w w' F fb sb b { φ with st:=(φ.st.writes (iZ φ.st.n φ.packed t (k+1))).1 } (K+(k+1)) v:=fun W q=>by
      rw[r7,show((k:Int)*256).toNat=k*256 by omega,show(((k:Int)+1)*256).toNat=(k+1)*256 by omega,x1,←abf]
      exact q.call (fun G hg=>(KZ W G sb b _ (K+k) _ (aG t k) hg r2 U (by rw[Tv.out k ay];omega)).mono fun e w' hx=>⟨by rw[←r6];exact hx.1,hx.2⟩)
     have iW:=Hd eP;have vC:=Hd jB;clear r5 r4 r7 r6 r1 r2 r3 eP jB x1 x2;by_cases zy:φ.packed=[]
     ·have hb:(!φ.packed.isEmpty)=false:=by rw[zy];rfl
      clear hc zy hp;go_wp2_with fail;go_quiet (fail);go_wp2_with fail;have HKq:=Hd (HK.out.q (Q.drewN wr nq));have c0:(wr.drewN nq).cell? ⟨fb,0,none⟩=some (au sb):=HKq.out.cells.1;generalize wr.drewN nq=wb at *;have KK:=Hd (Q.refl wb)
      (go_region_held3 (fun w'=>w'.cell? ⟨fb,0,none⟩=some (au sb))
       (first|exact g0|exact c0|exact aj δ c0)
       (first
        | (go_at_call 51;with_reducible refine(iW.out _ (HKq.out.q ω)).mono ?_;rintro e w3 ⟨rfl,rfl⟩)
        | (go_at_call 100;with_reducible refine(vC.out _ (HKq.out.q ω)).mono ?_;rintro e w5 ⟨rfl,h5⟩;have g0:=h5.cells.1;have H5:=Hd h5;clear h5)))
      all_goals
       go_wp2_with fail;exact⟨⟨k+1,by go_num,U,H5⟩,by simp[intOf];omega⟩
     ·have hb:(!φ.packed.isEmpty)=true:=by simpa using zy
      have bN:(aG φ.packed k==aG t k)=false:=by simpa using hc.resolve_left zy
      have gI:((({ data:=φ.packed.toArray }:ByteArray).extract (k*256) ((k+1)*256)).toList==(({ data:=t.toArray }:ByteArray).extract (k*256) ((k+1)*256)).toList)=false:=by rw[BF.out,BF.out,btl,btl];exact bN
      have e8:(((k:Int)+1)*256)≤(φ.packed.length:Int):=by have:=hp.resolve_left zy;omega
      clear hc zy hp;go_wp2_with fail;go_quiet (fail);go_wp2_with fail;have HKq:=Hd (HK.out.q (Q.drewN wr nq));have c0:(wr.drewN nq).cell? ⟨fb,0,none⟩=some (au sb):=HKq.out.cells.1;generalize wr.drewN nq=wb at *;have KK:=Hd (Q.refl wb)
      (go_region_held3 (fun w'=>w'.cell? ⟨fb,0,none⟩=some (au sb))
       (first|exact g0|exact c0|exact aj δ c0)
       (first
        | (go_at_call 51;with_reducible refine(iW.out _ (HKq.out.q ω)).mono ?_;rintro e w3 ⟨rfl,rfl⟩)
        | (go_at_call 100;with_reducible refine(vC.out _ (HKq.out.q ω)).mono ?_;rintro e w5 ⟨rfl,h5⟩;have g0:=h5.cells.1;have H5:=Hd h5;clear h5)))
      all_goals
       go_wp2_with fail;exact⟨⟨k+1,by go_num,U,H5⟩,by simp[intOf];omega⟩
    ·rw[aek,abq] at hc
     have hb:(!φ.packed.isEmpty)=true:=by simpa using hc.1
     have bN:(aG φ.packed k==aG t k)=true:=by simpa using hc.2
     have gI:((({ data:=φ.packed.toArray }:ByteArray).extract (k*256) ((k+1)*256)).toList==(({ data:=t.toArray }:ByteArray).extract (k*256) ((k+1)*256)).toList)=true:=by rw[BF.out,BF.out,btl,btl];exact bN
     have e8:(((k:Int)+1)*256)≤(φ.packed.length:Int):=by have:=hp.resolve_left hc.1;omega
     have r8:=r4 (by rw[aek,abq];exact hc)
     have R8:=Hd r8;clear r4 r5 r8 hc;go_wp2_with fail;go_quiet (fail);go_wp2_with fail;refine⟨⟨k+1,by go_num,U,Hd (by rw[R8.out];exact(HK.out.q (Q.drewN _ _)).mono U)⟩,by simp[intOf];omega⟩
   ·obtain rfl:k=12:=U
    have bq:¬((12:Nat):Int)<12:=U;obtain⟨G,h1,h2,h3⟩:=HK.out;obtain⟨c0,c1,c2,c3,f0,f1,f2,f3⟩:=h1.box.c4;obtain⟨h4,h5⟩:=h1.put (FsG.moved h2 h3 xM.out) t;clear HK;go_wp2_with fail;go_ret;exact⟨rfl,FsR.seq h2 h3 ⟨G,⟨_,h4⟩,fun k hk=>.inl hk,h5⟩⟩
end
section
open Go.RowKit
theorem FsR.k{w w':World}{F:Nat→Prop}{fb sb b:Nat}{φ:FsL}{K:Nat}(h:FsR w w' F fb sb b φ K):∃v,FsK w w' F fb sb b φ K v:=by
 obtain⟨G,⟨v,h1⟩,h2,h3⟩:=h;exact⟨v,G,h1,h2,h3⟩
theorem FsK.put{w w':World}{F:Nat→Prop}{fb sb b:Nat}{φ:FsL}{K:Nat}{v v':Value}{l:List ax}(h:FsK w w' F fb sb b φ K v)(hv:cn (fun k=>¬own F fb k) w v' l)(s:Bytes):
  FsR w ((w'.setCell ⟨fb,2,none⟩ v').setCell ⟨fb,3,none⟩ (ah s)) F fb sb b ⟨φ.st,l,s⟩ K:=by
 obtain⟨G,h1,h2,h3⟩:=h;obtain⟨h4,h5⟩:=h1.put (FsG.moved h2 h3 hv) s;exact FsR.seq h2 h3 ⟨G,⟨_,h4⟩,fun k hk=>.inl hk,h5⟩
theorem FsK.frozen{w w':World}{F:Nat→Prop}{fb sb b:Nat}{φ:FsL}{K:Nat}{v:Value}(h:FsK w w' F fb sb b φ K v):w'.frozen? ⟨fb,2,none⟩=false∧w'.frozen? ⟨fb,3,none⟩=false:=by
 obtain⟨G,h1,_⟩:=h;exact⟨h1.box.frozen 2,h1.box.frozen 3⟩
theorem Gt(w:World)(F:Nat→Prop)(fb sb b:Nat)(φ ψ:FsL)(K K1:Nat)(v:Value)(r:StL→TxR)(g:FuncId)(x:Value)(h:FsG w F fb sb b φ K v)(hK:K≤K1)
  (eg:∀(args:Array Value) (w:World),(callFunc g args).run prog w=.ok (.enter g args) w)
  (hψ:ψ.st=(r φ.st.begin.1).1∧((r φ.st.begin.1).2.1=0→ψ.l=(r φ.st.begin.1).2.2∧ψ.packed=bR (r φ.st.begin.1).2.2))
  (hn:φ.st.begin.2=0→iL ψ.st∧(ψ.st.state true=0→ψ.st.tx≠[]→KT ψ.st))
  (hw:φ.st.begin.2=0→∀W,FsK w W F fb sb b { φ with st:=φ.st.begin.1 } K v→Calls prog g #[x] W fun e w'=>e=.returned (.int .i64 (r φ.st.begin.1).2.1)∧FsR w w' F fb sb b ψ K1) :
  Calls prog 44 #[au fb,.func (.func g) #[x] #[]] w fun e w'=>e=.returned (.int .i64 (φ.cx r).2)∧FsR w w' F fb sb b (φ.cx r).1 K1:=by
 have kG:=h.files;have d1:φ.st.begin.2≠0→φ.cx r=({ φ with st:=φ.st.begin.1.abort },φ.st.begin.2):=fun e=>by unfold FsL.cx;rw[Φ e]
 have d2:φ.st.begin.2=0→(r φ.st.begin.1).2.1≠0→φ.cx r=({ φ with st:=(r φ.st.begin.1).1.abort },(r φ.st.begin.1).2.1):=fun e e2=>by unfold FsL.cx;rw[η (by simpa using e),Φ e2]
 have d3:φ.st.begin.2=0→(r φ.st.begin.1).2.1=0→(r φ.st.begin.1).1.bj.2≠0→φ.cx r=({ φ with st:=(r φ.st.begin.1).1.bj.1.abort },(r φ.st.begin.1).1.bj.2):=fun e e2 e3=>by unfold FsL.cx;rw[η (by simpa using e),η (by simpa using e2),Φ e3]
 have d4:φ.st.begin.2=0→(r φ.st.begin.1).2.1=0→(r φ.st.begin.1).1.bj.2=0→φ.cx r=(⟨(r φ.st.begin.1).1.bj.1,(r φ.st.begin.1).2.2,bR (r φ.st.begin.1).2.2⟩,0):=fun e e2 e3=>by unfold FsL.cx;rw[η (by simpa using e),η (by simpa using e2),η (by simpa using e3)]
 have SV:∀W:World,FsK w W F fb sb b φ K v→Calls prog 93 #[au sb] W fun e w'=>e=.returned (.int .i64 φ.st.begin.2)∧FsK w w' F fb sb b { φ with st:=φ.st.begin.1 } K v:=fun W q=>q.call (fun G hg=>WM W G sb b _ K hg)
 have uU:∀(χ:FsL) (u:Value) (W:World),FsK w W F fb sb b χ K1 u→Calls prog 95 #[au sb] W fun e w'=>e=.returned (.tuple #[])∧FsK w w' F fb sb b { χ with st:=χ.st.abort } K1 u:=fun χ u W q=>q.call (fun G hg=>(WT W G sb b _ K1 hg).mono fun e w' hx=>⟨hx.1,hx.2.1.mono (fun k hk=>.inl hk) (fun k hk=>hk.elim (hx.2.1.lt k) (fun hk=>hk.2)) (Ω _),hx.2.2⟩)
 have rO:φ.st.begin.2=0→∀(u:Value) (W:World),FsK w W F fb sb b ψ K1 u→Calls prog 94 #[au sb] W fun e w'=>e=.returned (.int .i64 (r φ.st.begin.1).1.bj.2)∧FsK w w' F fb sb b { ψ with st:=(r φ.st.begin.1).1.bj.1 } K1 u:=fun e u W q=>q.call (fun G hg=>by rw[←hψ.1];exact UQ W G sb b _ K1 hg (hn e).1 (hn e).2)
 have H0:=Hd (FsK.of h);obtain⟨c0,c1,c2,c3⟩:=H0.out.cells;generalize oW:r φ.st.begin.1=R at *;obtain⟨τ,er,ml⟩:=R;simp only[] at *;have HBE:=Hd SV;have Hf:=Hd uU;have Jz:=Hd rO;have HW:=Hd hw;have xM:=Hd kG;have D1:=Hd d1;have D2:=Hd d2;have D3:=Hd d3;have D4:=Hd d4;have HP:=Hd hψ;clear SV uU rO hw kG d1 d2 d3 d4 hψ hn h oW;obtain⟨la,lc,rfl⟩:∃(a:Option Addr) (c:Nat),v=.slice a φ.l.length c:=by obtain⟨a,c,e,_⟩:=xM.out.s.value;exact⟨a,c,e⟩
 generalize φ.st.begin=be at *;obtain⟨σ1,e0⟩:=be;simp only[] at *;go_enter func44,ntmps44;go_wp2_with fail;go_quiet (fail);have H1:=Hd (H0.out.q (Q.drewN w nq));generalize w.drewN nq=w0 at *;clear c0 c1 c2 c3;obtain⟨c0,c1,c2,c3⟩:=H1.out.cells;go_wp2_with fail;refine(HBE.out _ H1.out).mono ?_;rintro e w1 ⟨rfl,h1⟩;have H2:=Hd h1;clear h1 c0 c1 c2 c3 HBE;obtain⟨c0,c1,c2,c3⟩:=H2.out.cells;by_cases hb:e0=0
 ·subst hb
  go_wp2_with fail;refine(HW.out trivial _ H2.out).mono ?_;rintro e w3 ⟨rfl,h3⟩;obtain⟨u,h3⟩:=h3.k;have H3:=Hd h3;clear h3 c0 c1 c2 c3 HW;obtain⟨c0,c1,c2,c3⟩:=H3.out.cells;by_cases he:er=0
  ·subst he
   go_wp2_with fail;refine(Jz.out trivial _ _ H3.out).mono ?_;rintro e w4 ⟨rfl,h4⟩;by_cases hc:τ.bj.2=0
   ·have E:=Hd (D4.out trivial trivial hc)
    have H4:=Hd h4.r;have kX:=Hd (HP.out.2 trivial);rw[hc];clear h4 HP c0 c1 c2 c3;go_wp2_with fail;go_ret;rw[E.out];obtain⟨p1,p2⟩:=kX.out;refine⟨rfl,?_⟩;have:=H4.out;rwa [p1,p2] at this
   ·have E:=Hd (D3.out trivial trivial hc)
    clear H3 c0 c1 c2 c3;obtain⟨c0,c1,c2,c3⟩:=h4.cells;have H3:=Hd h4;clear h4;generalize τ.bj.2=ec at *;have he0:(ec==0)=false:=by simpa using hc
    go_wp2_with fail;refine(Hf.out { ψ with st:=τ.bj.1 } _ _ H3.out).mono ?_;rintro e w4 ⟨rfl,h4⟩;obtain⟨c0,c1,c2,c3⟩:=h4.cells;obtain⟨f2,f3⟩:=h4.frozen;have H5:=Hd (h4.put xM.out φ.packed);clear h4;go_wp2_with fail;go_ret;rw[E.out];exact⟨rfl,H5.out⟩
  ·have E:=Hd (D2.out trivial he)
   have he0:(er==0)=false:=by simpa using he
   have hp:=HP.out.1;have E2:=Hd hp;clear hp;go_wp2_with fail;refine(Hf.out ψ _ _ H3.out).mono ?_;rintro e w4 ⟨rfl,h4⟩;obtain⟨c0,c1,c2,c3⟩:=h4.cells;obtain⟨f2,f3⟩:=h4.frozen;have H5:=Hd (h4.put xM.out φ.packed);clear h4;go_wp2_with fail;go_ret;rw[E.out,←E2.out];exact⟨rfl,H5.out⟩
 ·have E:=Hd (D1.out hb)
  have he0:(e0==0)=false:=by simpa using hb
  have H3:=Hd (H2.out.mono hK);go_wp2_with fail;refine(Hf.out { φ with st:=σ1 } _ _ H3.out).mono ?_;rintro e w4 ⟨rfl,h4⟩;obtain⟨c0,c1,c2,c3⟩:=h4.cells;obtain⟨f2,f3⟩:=h4.frozen;have H5:=Hd (h4.put xM.out φ.packed);clear h4;go_wp2_with fail;go_ret;rw[E.out];exact⟨rfl,H5.out⟩
end
section
section
variable {KI:Nat} {φ:FsL} {σ:StL} {fr:List (List WrL)} {C:Nat→Bytes}
theorem eI.after(h:eI KI σ fr C)(p:Bytes)(l:List ax):ce KI (σ.dir p l).1 fr C:=by
 unfold StL.dir;cases hf:iA l with
 | false=>exact h.st
 | true =>
  have hr:=h.room;have vM:=h.few;have hlen:=J3 σ.n p (bR l);exact(tC (vL σ.n p (bR l)) h.st h.op U (fun x hx=>by
   obtain⟨i,hi,rfl⟩:=AZ hx;exact⟨TC _ _,by simp only;omega,h.on i hi,ni (kg hf) hi⟩)).2.1
theorem eI.code(h:eI KI σ fr C)(p:Bytes)(l:List ax):(σ.dir p l).2=if iA l then 0 else 9:=by
 unfold StL.dir;cases hf:iA l with
 | false=>rfl
 | true=>exact Gq h p (bR l) (kg hf)
theorem bz.Kf(h:bz KI φ fr C)(ht:TxI KI fr C φ.st σ)(hs:σ.tx.length≤36)(hb:∀i,i<12→bit σ.ai (ak φ.st.n+i)=true):eI KI σ fr C :=
 ⟨ht.st,ht.op,hs,by rw[fq ht.j];exact h.good.room,by rw[fq ht.j];exact hb⟩
theorem bz.GC(h:bz KI φ fr C):eI KI φ.st.begin.1 fr C:=by
 obtain⟨ht,h0,h1⟩:=h.start;refine h.Kf ht (by rw[h0];simp) (fun i hi=>?_)
 rw[h1];exact h.low _ U
theorem bz.alive(h:bz KI φ fr C):φ.st.dead=false:=h.st.inv.live
theorem bz.rise(h:bz KI φ fr C):φ.l.Pairwise fun a b=>a.name<b.name:=h.good.ok.rise
theorem bz.len(h:bz KI φ fr C):φ.l.length≤64:=h.good.ok.few
theorem bz.eK(h:bz KI φ fr C):φ.packed.length=3072:=by rw[h.packed];exact kg h.good.fits
theorem Xr(h:bz KI φ fr C)(s:Bytes)(hs:iM s=true)(hn:isF φ.l s=false)(hm:φ.l.length<64):cL (ak φ.st.n+12) φ.st.n (jE φ.l ⟨s,false,0,[]⟩):=by
 have hp:=wh φ.l ⟨s,false,0,[]⟩;have ha:fD (⟨s,false,0,[]⟩::φ.l)=fD φ.l:=rfl;refine cL.hQ (fun f hf=>?_) (EC h.good.ok.rise _ hn) hp (by rw[Mu];omega) (by rw[ha];exact h.good.ok.apart)
 rcases NL.1 hf with rfl|hf
 ·exact⟨hs,MD _,MD _,κ,(show(0:Nat)=cB 0 by decide)⟩
 ·exact h.good.ok.ok f hf
theorem AE(h:bz KI φ fr C)(i:Nat)(hi:i<φ.l.length):cL (ak φ.st.n+12) φ.st.n (φ.l.set i φ.l[i].sealed):=by
 have hp:=set_perm hi φ.l[i].sealed;have iq:=mZ hi;have ha:fD (φ.l[i].sealed::φ.l.eraseIdx i)=fD (φ.l[i]::φ.l.eraseIdx i):=rfl;refine cL.hQ (fun f hf=>?_) (JZ h.good.ok.rise i hi φ.l[i].sealed rfl) hp (by have:=iq.length_eq;have:=h.good.ok.few;simp only[Mu] at *;omega) (by rw[ha];exact(jf iq).nodup_iff.1 h.good.ok.apart)
 rcases NL.1 hf with rfl|hf
 ·have:=h.good.ok.ok _ (MA hi)
  exact⟨this.name,this.size,this.few,this.ext,this.need⟩
 ·exact h.good.ok.ok f (UT hf)
theorem zo{l:List ax}{s:Bytes}(h:isF l s=true):∃hk:aA l s<l.length,(l[aA l s]).name=s:=by
 unfold isF at h;cases hg:l[aA l s]? with
 | none=>simp[hg] at h
 | some f =>
  rw[hg] at h;obtain⟨hk,e⟩:=Pi.1 hg;exact⟨hk,by rw[e];exact Tl h⟩
theorem DV(φ:FsL)(s:Bytes)(hk:aA φ.l s<φ.l.length):φ.at9 s=φ.l[aA φ.l s]:=by
 unfold FsL.at9;rw[Θ,Mp hk];rfl
end
end
section
open Go.RowKit
def RdB(w:World)(rb:Nat)(s:Bytes):Prop:=Blk w rb 184 #[ah s,.bool false]
abbrev TR(rb:Nat)(w w':World):Prop:=ae (fun k=>k=rb) w w'
theorem TR.set{rb:Nat}{w w1:World}(q:Q w w1)(v:Value):TR rb w (w1.setCell ⟨rb,0,none⟩ v):=ae.setCell (own:=fun k=>k=rb) (a:=⟨rb,0,none⟩) (ae.br q) (.inl rfl) v
theorem Q8(w:World)(rb v most:Nat)(r s:Bytes)(hs:s=dN v++r)(h:RdB w rb s)(hv:v≤most)(hm:most<9223372036854775808)(hl:s.length≤1000000):
  Calls prog 115 #[au rb,.int .i64 (most:Nat)] w fun e w'=>e=.returned (.int .i64 (v:Nat))∧RdB w' rb r∧TR rb w w':=by
 have ht:=fun W=>Lm s v r W U ⟨U,hs⟩
 have hb:=fun (W:World) (q:Q w W)=>Blk.stays h q
 obtain⟨c0,c1,f0,f1⟩:=Blk.c2 h;have hw:IntKind.u64.wrap (most:Int)=(most:Int):=by simp[IntKind.wrap,IntKind.bits,IntKind.signed];omega
 have gD:IntKind.i64.wrap (v:Int)=(v:Int):=IntWalk.i64_in _ U;have hg:¬(v:Int)>(most:Int):=U;have HT:=Hd ht;have HB:=Hd hb;clear ht hb h hs hv;go_enter func115,ntmps115;go_wp2_with fail;refine(HT.out _).mono ?_;rintro e w1 ⟨rfl,q⟩;have Q1:=Hd q;have hb1:=HB.out _ q;obtain⟨c0,c1,f0,f1⟩:=Blk.c2 hb1;have Bl:=Hd hb1;clear q hb1;go_wp2_with fail;go_ret;exact⟨rfl,Bl.out.set 0 _,TR.set Q1.out _⟩
structure RFS (w wi:World) (rb:Nat) (s:Bytes) (cs:Array Value):Prop where
 rd:RdB wi rb s
 fb:Blk wi (w.heap.size+1) 56 cs
 rs:Blk wi w.heap.size 56 #[ah [],.bool false,.int .i64 0,.slice none 0 0]
 t:TR rb w wi
 lt:rb<w.heap.size
section
variable {w wi w':World} {rb:Nat} {s:Bytes} {cs:Array Value}
theorem RFS.q(h:RFS w wi rb s cs)(q:Q wi w'):RFS w w' rb s cs:=⟨h.rd.stays q,h.fb.stays q,h.rs.stays q,h.t.trans (ae.br q),h.lt⟩
theorem RFS.size(h:RFS w wi rb s cs):w.heap.size+2≤wi.heap.size:=by have:=h.fb.lt;omega
theorem RFS.num(h:RFS w wi rb s cs)(v most:Nat)(r:Bytes)(hs:s=dN v++r)(hv:v≤most)(hm:most<9223372036854775808)(hl:s.length≤1000000):
  Calls prog 115 #[au rb,.int .i64 (most:Nat)] wi fun e w'=>e=.returned (.int .i64 (v:Nat))∧RFS w w' rb r cs∧TR rb wi w':=by
 refine(Q8 wi rb v most r s hs h.rd hv hm hl).mono ?_;rintro e w' ⟨rfl,h1,t⟩;have:=h.lt;exact⟨rfl,⟨h1,t.blk h.fb U,t.blk h.rs U,h.t.trans t,h.lt⟩,t⟩
theorem RFS.set(h:RFS w wi rb s cs)(j:Nat)(v:Value):RFS w (wi.setCell ⟨w.heap.size+1,j,none⟩ v) rb s (cs.setIfInBounds j v):=by
 have:=h.lt;exact⟨h.rd.other _ _ (by simp only;omega),h.fb.set j v,h.rs.other _ _ (by simp only;omega),ae.setCell (a:=⟨w.heap.size+1,j,none⟩) h.t (.inr (by simp only;omega)) v,h.lt⟩
theorem RFS.skip(h:RFS w wi rb s cs)(r:Bytes):RFS w (wi.setCell ⟨rb,0,none⟩ (ah r)) rb r cs:=by
 have:=h.lt;exact⟨Blk.set h.rd 0 (ah r),h.fb.other _ _ (by simp only;omega),h.rs.other _ _ (by simp only;omega),ae.setCell (own:=fun k=>k=rb) (a:=⟨rb,0,none⟩) h.t (.inl rfl) _,h.lt⟩
theorem RFS.oth(h:RFS w wi rb s cs){B:Nat}(hB:w.heap.size+2≤B)(j:Nat)(v:Value):RFS w (wi.setCell ⟨B,j,none⟩ v) rb s cs:=by
 have:=h.lt;exact⟨h.rd.other _ _ (by simp only;omega),h.fb.other _ _ (by simp only;omega),h.rs.other _ _ (by simp only;omega),ae.setCell (a:=⟨B,j,none⟩) h.t (.inr (by simp only;omega)) v,h.lt⟩
theorem RFS.grown(h:RFS w wi rb s cs){v:Value}{n:Nat}{xs:List Value}(ho:wi.ownsRow (w.heap.size+2) 120 2 v n xs)(hg:wi.grownBy w' v.ownBlock):RFS w w' rb s cs :=
 ⟨oI h.rd ho hg Z,oI h.fb ho hg Z,oI h.rs ho hg Z,h.t.grown (gT ho (show w.heap.size≤w.heap.size+2 by omega)) hg (Ω _),h.lt⟩
end
theorem B3(w:World)(rb:Nat)(f:ax)(r s:Bytes)(hs:s=Av f++r)(h:RdB w rb s)(hl:s.length≤100000)(bP:f.size≤2147483647)(vM:f.ext.length≤16)(hx:∀e∈f.ext,e.1≤4096∧e.2≤4096):
  Calls prog 116 #[au rb] w fun e w'=>(∃av,e=.returned (oN f av)∧w'.ownsRow w.heap.size 120 2 av f.ext.length (ext f.ext))∧RdB w' rb r∧TR rb w w':=by
 obtain⟨i0,hi,bY,bB,aW⟩:=info_parts zl;obtain⟨fn,fs,fz,fx⟩:=f;simp only at bP vM hx;rw[Kh] at hs;unfold lz at hs;simp only at hs;obtain⟨sn,kr⟩:∃sn:Nat,sn=if fs then 1 else 0:=⟨_,rfl⟩
 rw[←kr] at hs;simp only[MY] at hs;obtain⟨s4,e4⟩:∃s4,s4=vO fx++r:=⟨_,rfl⟩;obtain⟨s3,e3⟩:∃s3,s3=dN fx.length++s4:=⟨_,rfl⟩;obtain⟨s2,e2⟩:∃s2,s2=dN fz++s3:=⟨_,rfl⟩;obtain⟨s1,e1⟩:∃s1,s1=dN sn++s2:=⟨_,rfl⟩;rw[←e4,←e3,←e2,←e1] at hs;have l0:s.length=(qR fn).length+s1.length:=by rw[hs,Δ]
 have l1:s1.length=(dN sn).length+s2.length:=by rw[e1,Δ]
 have l2:s2.length=(dN fz).length+s3.length:=by rw[e2,Δ]
 have l3:s3.length=(dN fx.length).length+s4.length:=by rw[e3,Δ]
 have lf:fn.length≤100000:=by
  have:(qR fn).length=(dN fn.length).length+fn.length:=by unfold qR;rw[Δ]
  omega
 have qN:=fun W=>U3 s fn s1 W U ⟨U,hs⟩
 have aC:RFS w ((w.alloc (.cells #[ah [],.bool false,.int .i64 0,.slice none 0 0] 56)).alloc (.cells #[ah [],.bool false,.int .i64 0,.slice none 0 0] 56)) rb s #[ah [],.bool false,.int .i64 0,.slice none 0 0]:=by
  have q1:=Q.alloc w (.cells #[ah [],.bool false,.int .i64 0,.slice none 0 0] 56);have q2:=Q.alloc (w.alloc (.cells #[ah [],.bool false,.int .i64 0,.slice none 0 0] 56)) (.cells #[ah [],.bool false,.int .i64 0,.slice none 0 0] 56);have b2:=Blk.new (w.alloc (.cells #[ah [],.bool false,.int .i64 0,.slice none 0 0] 56)) 56 #[ah [],.bool false,.int .i64 0,.slice none 0 0];rw[show(w.alloc (.cells #[ah [],.bool false,.int .i64 0,.slice none 0 0] 56)).heap.size=w.heap.size+1 by simp] at b2
  exact⟨h.stays (q1.trans q2),b2,(Blk.new w _ _).stays q2,ae.br (q1.trans q2),h.lt⟩
 have FD:=Hd qN;have aX:=Hd aC;have HE:=Hd (And.intro e1 (And.intro e2 (And.intro e3 e4)));have HL:=Hd (And.intro hl (And.intro l0 (And.intro l1 (And.intro l2 l3))));have HX:=Hd hx;obtain⟨c0,c1,_⟩:=Blk.c2 aC.rd;clear qN aC hs e1 e2 e3 e4 hl l0 l1 l2 l3 lf hx h;generalize hwz:(w.alloc (.cells #[ah [],.bool false,.int .i64 0,.slice none 0 0] 56)).alloc (.cells #[ah [],.bool false,.int .i64 0,.slice none 0 0] 56)=wz at *;go_enter func116,ntmps116;go_wp2_with fail;refine(FD.out _).mono ?_;rintro e w1 ⟨rfl,q1⟩;have h1:=aX.out.q q1;clear c0 c1 hwz;obtain⟨_,_,d0,d1⟩:=Blk.c2 h1.rd;obtain⟨a0,a1,a2,a3,g0,g1,g2,g3⟩:=h1.fb.c4;have h1s:=h1.set 0 (ah fn);obtain⟨z0,z1,y0,y1⟩:=Blk.c2 h1s.rd;have h2:=h1s.skip s1;obtain⟨p0,p1,p2,p3,_⟩:=h2.fb.c4;have qM:Calls prog 115 #[au rb,.int .i64 1] _ _:=(h2.num sn 1 s2 HE.out.1 (by rw[kr];split<;>decide) Z (by have:=HL.out;omega))
 have H2:=Hd qM;clear h1 h1s h2 q1 qM;go_wp2_with fail;refine H2.out.mono ?_;rintro e w2 ⟨rfl,h2,_⟩;obtain⟨a0,a1,a2,a3,g0,g1,g2,g3⟩:=h2.fb.c4;have rD:((sn:Int)==1)=fs:=by rw[kr];cases fs<;>rfl
 have h3:=h2.set 1 (.bool fs);have kV:Calls prog 115 #[au rb,.int .i64 2147483647] _ _:=(h3.num fz 2147483647 s3 HE.out.2.1 bP Z (by have:=HL.out;omega))
 have H3:=Hd kV;clear h2 h3 kV H2 kr;go_wp2_with fail;refine H3.out.mono ?_;rintro e w3 ⟨rfl,h3,_⟩;clear a0 a1 a2 a3 g0 g1 g2 g3 p0 p1 p2 p3 z0 z1 y0 y1 H3;obtain⟨a0,a1,a2,a3,g0,g1,g2,g3⟩:=h3.fb.c4;have h4:=h3.set 2 (.int .i64 (fz:Nat));have hn3:Calls prog 115 #[au rb,.int .i64 16] _ _:=(h4.num fx.length 16 s4 HE.out.2.2.1 vM Z (by have:=HL.out;omega))
 have H4:=Hd hn3;clear h3 h4 hn3;go_wp2_with fail;refine H4.out.mono ?_;rintro e w4 ⟨rfl,h4,_⟩;clear a0 a1 a2 a3 g0 g1 g2 g3 H4;have H5:=Hd (show RFS w w4 rb s4 #[ah fn,.bool fs,.int .i64 (fz:Nat),.slice none 0 0] from h4)
 clear h4;go_wp2_with fail;go_loopw [38] (fun i wr=>∃(m:Nat) (ua:Option Addr) (ucap:Nat) (sm:Bytes),i=.int .i64 (m:Nat)∧m≤fx.length∧sm.length≤100000∧Hid (sm=vO (fx.drop m)++r)∧Hid (RFS w wr rb sm #[ah fn,.bool fs,.int .i64 (fz:Nat),.slice ua m ucap])∧Hid (wr.ownsRow (w.heap.size+2) 120 2 (.slice ua m ucap) m (ext (fx.take m)))) (fun i _=>fx.length-(intOf i).toNat)
 case atStart=>exact⟨0,none,0,s4,rfl,MD _,by have:=HL.out;omega,HE.out.2.2.2,H5,World.ownsRow_nil _ _ _ _⟩
 case round =>
  obtain⟨m,ua,ucap,sm,rfl,hm,CO,TI,HR,HO⟩:=hrel;obtain⟨wo,rfl⟩:∃wo:World,wo=wr:=⟨_,rfl⟩;by_cases ny:m<fx.length
  ·have Tz:(m:Int)<(fx.length:Int):=U
   obtain⟨x1,x2⟩:=HX.out _ (MA ny);have O8:sm=dN fx[m].1++(dN fx[m].2++(vO (fx.drop (m+1))++r)):=by
    rw[TI.out,Re ny];unfold vO;rw[OR];simp only[MY]
   have kH:ext (fx.take (m+1))=ext (fx.take m)++[.int .i64 (fx[m].1:Nat),.int .i64 (fx[m].2:Nat)]:=by rw[M2 ny,jP];rfl
   generalize fx[m]=e at *;obtain⟨ea,ec⟩:=e;simp only at x1 x2 O8 kH;obtain⟨sn2,aaR⟩:∃z,z=vO (fx.drop (m+1))++r:=⟨_,rfl⟩;obtain⟨sn1,YM⟩:∃z,z=dN ec++sn2:=⟨_,rfl⟩;rw[←aaR,←YM] at O8;have mG:sm.length=(dN ea).length+sn1.length:=by rw[O8,Δ]
   have fF:sn1.length=(dN ec).length+sn2.length:=by rw[YM,Δ]
   have bP:=HR.out.size;have qa:=Q.alloc wo (.cells #[.int .i64 0,.int .i64 0] 120);have ba:=Blk.new wo 120 #[.int .i64 0,.int .i64 0];have ha:=HR.out.q qa;have oa:=ownsRow_below HO.out qa;have zU:=fun g hg=>(HO.out.lt g hg).2
   have vw:=fun g hg=>(HO.out.lt g hg).1
   have ay:=HR.out.lt;have qM:Calls prog 115 #[au rb,.int .i64 4096] _ _:=ha.num ea 4096 sn1 O8 x1 Z U;have fZ:=Hd qM;have BA:=Hd ba;have OA:=Hd oa;have HRO:=Hd zU;have FK:=Hd vw;have HK:=Hd (And.intro ny (And.intro aaR (And.intro kH (And.intro mG fF))));have Ab:=Hd YM;clear qM ba oa qa ha zU vw ny O8 aaR YM kH mG fF hm;go_wp2_with fail;refine fZ.out.mono ?_;rintro e w5 ⟨rfl,h5,t5⟩;have b5:=t5.blk BA.out U;have o5:=t5.owns OA.out (fun g hg e=>by have:=FK.out g hg;omega)
   obtain⟨c0,c1,f0,f1⟩:=b5.c2;have b6:=b5.set 0 (.int .i64 (ea:Nat));have h6:=h5.oth bP 0 (.int .i64 (ea:Nat));have o6:=ownsRow_setCell_other (a:=⟨wo.heap.size,0,none⟩) o5 (fun e=>by have:=HRO.out _ e;simp only at this;omega) (.int .i64 (ea:Nat))
   have kV:Calls prog 115 #[au rb,.int .i64 4096] _ _:=h6.num ec 4096 sn2 Ab.out x2 Z (by have:=HK.out.2.2.2;omega)
   have HN2:=Hd kV;have B6:=Hd b6;have O6:=Hd o6;clear kV b5 b6 h5 h6 o5 o6 t5;go_wp2_with fail;refine HN2.out.mono ?_;rintro e w7 ⟨rfl,h7,t7⟩;have b7:Blk w7 wo.heap.size 120 #[.int .i64 (ea:Nat),.int .i64 0]:=t7.blk B6.out U;have o7:=t7.owns O6.out (fun g hg e=>by have:=FK.out g hg;omega)
   clear c0 c1 f0 f1;obtain⟨c0,c1,f0,f1⟩:=b7.c2;have b8:Blk (w7.setCell ⟨wo.heap.size,1,none⟩ (.int .i64 (ec:Nat))) wo.heap.size 120 #[.int .i64 (ea:Nat),.int .i64 (ec:Nat)]:=b7.set 1 _;have h8:=h7.oth bP 1 (.int .i64 (ec:Nat));have o8:=ownsRow_setCell_other (a:=⟨wo.heap.size,1,none⟩) o7 (fun e=>by have:=HRO.out _ e;simp only at this;omega) (.int .i64 (ec:Nat))
   obtain⟨k0,k1,_,_⟩:=b8.c2;obtain⟨_,_,_,p3,_,_,_,_⟩:=h8.fb.c4;have q9:=Q.alloc (w7.setCell ⟨wo.heap.size,1,none⟩ (.int .i64 (ec:Nat))) (.cells #[.int .i64 (ea:Nat),.int .i64 (ec:Nat)] 120);have bX:=Sl.lit (w7.setCell ⟨wo.heap.size,1,none⟩ (.int .i64 (ec:Nat))) #[.int .i64 (ea:Nat),.int .i64 (ec:Nat)] 120 1 2 rfl;rw[bO] at bX;have H1:Hid (∀u∈(#[.int .i64 (ea:Nat),.int .i64 (ec:Nat)]:Array Value).toList,u.oneCell'=true):=Hd (by intro u hu;simp at hu;rcases hu with rfl|rfl<;>rfl)
   have H2:Hid (m+1≤maxLen):=Hd (by unfold maxLen;omega)
   have H3:Hid ((m+1)*16≤140737488355328):=Hd U;have h9:=h8.q q9;have o9:=ownsRow_below o8 q9;have H4:Hid (w.heap.size+2≤((w7.setCell ⟨wo.heap.size,1,none⟩ (.int .i64 (ec:Nat))).alloc (.cells #[.int .i64 (ea:Nat),.int .i64 (ec:Nat)] 120)).heap.size):=Hd h9.size;have H9:=Hd h9;have O9:=Hd o9;have xG:=Hd bX;clear b7 b8 h7 h8 o7 o8 q9 bX h9 o9 t7 B6 O6 BA OA fZ HN2;go_wp2_with (at_builtin;go_must (refine fM ((w7.setCell ⟨wo.heap.size,1,none⟩ (.int .i64 (ec:Nat))).alloc (.cells #[.int .i64 (ea:Nat),.int .i64 (ec:Nat)] 120)) ρ _ _ 54 ρ (w.heap.size+2) 120 i0 (.agg #[.int .i64 0,.int .i64 0]) 2 16 underlying54 hi bY bB aW rfl Z _ _ _ ρ O9.out _ 1 _ ρ xG.out H1.out H2.out H3.out H4.out ?_))
   intro v' w9 V6 ZO _;have RH:=H9.out.grown O9.out ZO;obtain⟨ua2,uc2,rfl,_⟩:=aY V6;obtain⟨_,_,_,p3,_,_,_,r3⟩:=RH.fb.c4;have ZP:RFS w (w9.setCell ⟨w.heap.size+1,3,none⟩ (.slice ua2 (m+1) uc2)) rb sn2 #[ah fn,.bool fs,.int .i64 (fz:Nat),.slice ua2 (m+1) uc2]:=RH.set 3 _;have o11:=ownsRow_setCell_other (a:=⟨w.heap.size+1,3,none⟩) V6 (fun e=>by have:=(V6.lt _ e).1;simp only at this;omega) (.slice ua2 (m+1) uc2)
   have H11:=Hd ZP;have O11:=Hd o11;clear RH ZP o11 V6 ZO;go_wp2_with fail;go_roundw;case rel=>exact⟨m+1,ua2,uc2,sn2,by go_num,HK.out.1,by have:=HK.out.2.2.2;omega,HK.out.2.1,H11,by rw[HK.out.2.2.1];exact O11.out⟩
   case measure=>have:=HK.out.1;simp[intOf];omega
  ·obtain rfl:m=fx.length:=U
   have hsr:sm=r:=by rw[TI.out,Wk];rfl
   have ho:=HO.out;rw[N5] at ho;have hr:=HR.out;rw[hsr] at hr;obtain⟨b0,b1,b2,b3,_⟩:=hr.fb.c4;obtain⟨_,_,_,_,z0,z1,z2,z3⟩:=hr.rs.c4;have Ct:=Hd hr;have Ht:=Hd ho;clear hr ho hsr;go_wp2_with fail;obtain⟨k0,k1,k2,k3,kb⟩:=Ct.out.rs.r4 (ah fn) (.bool fs) (.int .i64 (fz:Nat)) (.slice ua fx.length ucap);have fF:=Ct.out.lt;refine bodyPost_ret (v:=oN ⟨fn,fs,fz,fx⟩ (.slice ua fx.length ucap)) (by simp[results,Tryz.results116,go_sem,k0,k1,k2,k3]) rfl ⟨⟨.slice ua fx.length ucap,rfl,?_⟩,?_,?_⟩
   ·have aU:∀j,(Value.slice ua fx.length ucap).ownBlock≠some (⟨w.heap.size,j,none⟩:Addr).block:=fun j e=>by have:=(Ht.out.lt _ e).1;simp only at this;omega
    exact gT (ownsRow_setCell_other (ownsRow_setCell_other (ownsRow_setCell_other (ownsRow_setCell_other Ht.out (aU 0) _) (aU 1) _) (aU 2) _) (aU 3) _) U
   ·have hn:rb≠w.heap.size:=U
    exact Blk.other (Blk.other (Blk.other (Blk.other Ct.out.rd _ _ hn) _ _ hn) _ _ hn) _ _ hn
   ·have hn:w.heap.size≤w.heap.size:=Ω _
    exact ae.setCell (a:=⟨w.heap.size,3,none⟩) (ae.setCell (a:=⟨w.heap.size,2,none⟩) (ae.setCell (a:=⟨w.heap.size,1,none⟩) (ae.setCell (a:=⟨w.heap.size,0,none⟩) Ct.out.t (.inr hn) _) (.inr hn) _) (.inr hn) _) (.inr hn) _
end
end Go.Proofs.YtonlbpljghohmaaGreatDoor
