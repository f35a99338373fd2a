/- Joined: WInoA to WFsA -/
import Derived.Shelf.Strings.SlTrimAscii
import Derived.Handy
import Derived.Shelf.SlSortCmp.WholeK
import Derived.Test.YtbkahhebmpehnaaGreatDoorCXWStoK
set_option linter.all false
set_option maxRecDepth 100000
set_option maxHeartbeats 8000000
namespace Go.Proofs.YtbkahhebmpehnaaGreatDoor
open Go.Proofs.Tryz
section
open Go.RowKit
theorem eight{w w':World}(q:Q w w'){a0 a1 a2 a3 a4 a5 a6 a7:Addr}{v0 v1 v2 v3 v4 v5 v6 v7:Value}(h0:w.cell? a0=some v0)(h1:w.cell? a1=some v1)(h2:w.cell? a2=some v2)(h3:w.cell? a3=some v3)(h4:w.cell? a4=some v4)(h5:w.cell? a5=some v5)(h6:w.cell? a6=some v6)(h7:w.cell? a7=some v7):
  w'.cell? a0=some v0∧w'.cell? a1=some v1∧w'.cell? a2=some v2∧w'.cell? a3=some v3∧w'.cell? a4=some v4∧w'.cell? a5=some v5∧w'.cell? a6=some v6∧w'.cell? a7=some v7:=⟨aj q h0,aj q h1,aj q h2,aj q h3,aj q h4,aj q h5,aj q h6,aj q h7⟩
theorem QN{α:Type}(p:α→Bool)(l:List α):(∀x∈l.dropWhile p,p x=true)↔∀x∈l,p x=true:=by
 induction l with
 | nil=>simp
 | cons a l ih =>
  rw[aej];cases h:p a with
  | true=>rw[Φ rfl,ih];simp[h]
  | false=>rw[η Z]
theorem drop_nil{α:Type}(p:α→Bool)(l:List α):l.dropWhile p=[]↔∀x∈l,p x=true:=by
 rw[←QN];induction l with
 | nil=>simp
 | cons a l ih =>
  rw[aej];cases h:p a with
  | true=>rw[Φ rfl,ih]
  | false=>rw[η Z];simp[h]
theorem UY{α:Type}[DecidableEq α](l:List α):l.isEmpty=decide (l=[]):=by cases l<;>simp
theorem QO(s cs:Bytes):Lib.trimS s cs=[]↔∀c∈s,c∈cs:=by
 unfold Lib.trimS Lib.trimRightS Lib.trimLeftS;rw[drop_nil];have h:=QN (cs.contains ·) s.reverse
 simp only[acv] at h ⊢;rw[h];simp
theorem J7(a b:Bytes):Op.bytesLess a b=decide (a<b):=by
 induction a generalizing b with
 | nil=>cases b<;>simp[Op.bytesLess]
 | cons x a ih =>
  cases b with
  | nil=>simp[Op.bytesLess]
  | cons y b =>
   rw[Op.bytesLess,ih];rw[abR];simp only[Bool.or_eq_true,TX,acn,MY,List.cons_lt_cons_iff]
theorem EH(s:Bytes)(w:World)(hs:s.length≤9223372036854775807):
  Calls prog 29 #[ah s] w fun e w'=>e=.returned (.bool (iM s))∧Q w w':=by
 have ht:=fun W=>Any.strings_Trim_laid Tryz.lays160 (by kernel_rfl) ⟨s.toArray⟩ ⟨#[97,98,99,100,101,102,103,104,105,106,107,108,109,110,111,112,113,114,115,116,117,118,119,120,121,122,48,49,50,51,52,53,54,55,56,57,46,45,95]⟩ W hs Z (ascii_of_all Z)
 by_cases h0:s=[]
 ·subst h0
  have hr:iM []=false:=rfl;rw[hr];clear ht;go_enter func29,ntmps29;go_wp2_with fail;go_ret;exact⟨rfl,Q.refl _⟩
 ·have hb:(s==[])=false:=by simpa using h0
  by_cases h1:s.length≤24
  ·have hr:iM s=decide (Lib.trimS s pD=[]):=by
    unfold iM;rw[abR];simp only[TX];rw[QO];exact⟨fun h=>h.2.2,fun h=>⟨h0,h1,h⟩⟩
   rw[hr];have HT:=Hd ht;clear ht hr h0;have h2:(s.length:Int)≤24:=U;go_enter func29,ntmps29;go_wp2_with fail;refine(HT.out _).mono ?_;rintro e w1 ⟨rfl,q⟩;have Q1:=Hd q;clear q;go_wp2_with fail;go_ret;exact⟨JN (UY (Lib.trimS s pD)),Q1.out⟩
  ·have hr:iM s=false:=Mz (fun h=>h1 h.2.1)
   rw[hr];have h2:¬(s.length:Int)≤24:=U;clear ht hr h0;go_enter func29,ntmps29;go_wp2_with fail;go_ret;exact⟨rfl,Q.refl _⟩
theorem Gr(f:ax)(a:Value)(w:World):Calls prog 85 #[oN f a] w fun e w'=>e=.returned (ah f.name)∧Q w w':=by
 obtain⟨n,s,z,x⟩:=f;go_enter func85,ntmps85;go_wp2_with fail;go_ret;exact⟨rfl,Q.alloc _ _⟩
theorem Lh(x:Bytes)(w:World):Calls prog 248 #[ah x] w fun e w'=>e=.returned (.bool false)∧w=w':=by
 go_enter func248,ntmps248;go_wp2;go_ret;exact⟨κ,rfl⟩
def io(a b:Bytes):Int:=if a<b then -1 else if b<a then 1 else 0
theorem GF(x y:Bytes):(!Op.bytesLess x y && !x==y)=decide (y<x):=by
 rw[J7];by_cases h:x<y
 ·rw[MM h,Mz (fun h2=>DR _ (mr h h2))];rfl
 ·by_cases e:x=y
  ·subst e;rw[Mz (DR _)];simp
  ·rw[Mz h,MM (mA h e)];simp[e]
theorem AC(x y:Bytes)(w:World):Calls prog 191 #[ah x,ah y] w fun e w'=>e=.returned (.int .i64 (io x y))∧w=w':=by
 have hg:=GF x y;have hb:=J7 x y;unfold io;by_cases h1:x<y
 ·rw[MM h1] at hb
  rw[Φ h1];clear h1 hg;go_enter func191,ntmps191;go_wp2_with (go_at_call 248;refine(Lh _ _).mono ?_;rintro e w' ⟨rfl,rfl⟩);go_ret;exact⟨rfl,rfl⟩
 ·rw[Mz h1] at hb
  rw[η h1];have hz:(!x==y)=decide (y<x):=by rw[hb] at hg;exact hg
  clear h1;by_cases h2:y<x;all_goals
   simp only[h2,decide_true,decide_false,PM,ON] at hz hg ⊢;clear h2;go_enter func191,ntmps191;go_wp2_with (go_at_call 248;refine(Lh _ _).mono ?_;rintro e w' ⟨rfl,rfl⟩);go_ret;exact⟨rfl,rfl⟩
theorem UZ(f:ax)(a:Value)(s:Bytes)(B:Nat)(w:World)(h:w.cell? ⟨B,0,none⟩=some (.func (.func 85) #[] #[])):Calls prog 190 #[oN f a,ah s,.pointer (some ⟨B,0,none⟩)] w fun e w'=>e=.returned (.int .i64 (io f.name s))∧Q w w':=by
 have hn:=fun W=>Gr f a W
 have hc:=fun W=>AC f.name s W
 have bZ:=aj (Q.alloc w (.cells #[ah f.name,.bool f.sl,.int .i64 (f.size:Nat),a] 48)) h;have HN:=Hd hn;have HC:=Hd hc;clear hn hc;generalize io f.name s=c at *;have eg:∀args w,(callFunc 85 args).run prog w=.ok (.enter 85 args) w:=enters_of func85 (by kernel_rfl) rfl
 obtain⟨n,sl,z,x⟩:=f;go_enter func190,ntmps190;go_wp2_with fail;refine(HN.out _).mono ?_;rintro e w1 ⟨rfl,q⟩;have Q1:=Hd ((Q.alloc w (.cells #[ah n,.bool sl,.int .i64 (z:Nat),a] 48)).trans q);clear q;go_wp2_with fail;refine(HC.out _).mono ?_;rintro e w2 ⟨rfl,rfl⟩;go_wp2_with fail;go_ret;exact⟨rfl,Q1.out⟩
theorem Hj(a b:Bytes):io a b<0↔a<b:=by
 unfold io;split
 ·rename_i h;exact⟨fun _=>h,fun _=>Z⟩
 ·rename_i h
  split
  ·exact⟨fun x=>absurd x Z,fun x=>absurd x h⟩
  ·exact⟨fun x=>absurd x Z,fun x=>absurd x h⟩
theorem IH(a b:Bytes):io a b=0↔a=b:=by
 unfold io;split
 ·rename_i h;exact⟨fun x=>absurd x Z,fun e=>by subst e;exact absurd h (DR _)⟩
 ·rename_i h
  split
  ·rename_i h2;exact⟨fun x=>absurd x Z,fun e=>by subst e;exact absurd h2 (DR _)⟩
  ·rename_i h2;exact⟨fun _=>adn fun e=>h2 (mA h e),fun _=>rfl⟩
theorem C6(v:Value)(l:List ax)(s:Bytes)(B:Nat)(w:World)(h:eQ w v l)(hl:l.length≤1000000)(hr:l.Pairwise fun a b=>a.name<b.name)(hb:w.cell? ⟨B,0,none⟩=some (.func (.func 85) #[] #[])):
  Calls prog 189 #[v,ah s,.func (.func 190) #[] #[.pointer (some ⟨B,0,none⟩)]] w fun e w'=>e=.returned (.tuple #[.int .i64 (aA l s:Nat),.bool (isF l s)])∧Q w w':=by
 obtain⟨a,cap,rfl,hc⟩:=h.value;have bW:=Gm l s;have nO:=fun k hk=>zf hr s k hk
 have bL:=fun (k:Nat) (hk:k<l.length) (av:Value) (W:World) (q:Q w W)=>UZ l[k] av s B W (aj q hb)
 have Tx:=fun (k:Nat) (hk:k<l.length)=>Hj l[k].name s
 have V4:∀hk:aA l s<l.length,isF l s=decide (io (l[aA l s]'hk).name s=0):=fun hk=>by
  unfold isF;rw[LN hk];simp only[IH]
 have oZ:¬aA l s<l.length→isF l s=false:=fun hk=>by unfold isF;rw[adV U]
 have eg:∀args w,(callFunc 190 args).run prog w=.ok (.enter 190 args) w:=enters_of func190 (by kernel_rfl) rfl
 have HC:=Hd hc;have HP:=Hd nO;have p8:=Hd bL;have iI:=Hd Tx;have HIE:=Hd V4;have Zi:=Hd oZ;have zJ:=Hd bW;clear hc nO bL Tx V4 oZ bW h hr hb;generalize isF l s=fo at *;generalize hP:aA l s=p at *;clear hP;go_enter func189,ntmps189;go_wp2_with fail;go_loopw [9,10] (fun i j wr=>∃x y:Nat,x≤y∧y≤l.length∧i=.int .i64 (x:Nat)∧j=.int .i64 (y:Nat)∧Hid (x≤p∧p≤y)∧Hid (Q w wr)) (fun i j _=>(intOf j).toNat-(intOf i).toNat)
 case atStart=>exact⟨0,l.length,L0 _,Ω _,rfl,rfl,⟨L0 _,zJ.out⟩,Q.refl w⟩
 case round =>
  obtain⟨x,y,hxy,hyn,rfl,rfl,HI,HQ⟩:=hrel;obtain⟨wo,rfl⟩:∃wo:World,wo=wr:=⟨_,rfl⟩;by_cases ay:x<y
  ·obtain⟨m,hm⟩:∃m,m=(x+y) / 2:=⟨_,rfl⟩
   have iU:m<l.length:=U;have e1:((x:Int)+(y:Int)) / 2=(m:Nat):=U;obtain⟨b,off,rfl,hd⟩:=HC.out U;obtain⟨av,c0,c1,c2,c3,_⟩:=hd m iU;have c0:=aj HQ.out c0;have c1:=aj HQ.out c1;have c2:=aj HQ.out c2;have c3:=aj HQ.out c3;have kR:=p8.out m iU av wo HQ.out;have oP:=iI.out m iU;have qH:=HP.out m iU;have Tz:(m:Int)<(l.length:Int):=U;have JH:(0:Int)≤(m:Int):=U;have Cv:=Hd kR;have HD:=Hd hd;have HM:=Hd (And.intro hm ay);clear kR hd hm;generalize l[m]=f at *;obtain⟨fn,fs,fz,fx⟩:=f;simp only at c0 c1 c2 oP qH;generalize nU:io fn s=cr at *;by_cases TA:cr<0
   ·have TB:=qH.1 (oP.1 TA)
    have HZ:=Hd TB;clear TB oP qH nU;go_wp2_with fail;refine Cv.out.mono ?_;rintro e w1 ⟨rfl,q⟩;have Q1:=Hd (HQ.out.trans q);clear q;go_wp2_with fail;go_roundw;case rel=>exact⟨m+1,y,by have:=HM.out;omega,hyn,by go_num,rfl,⟨HZ.out,HI.out.2⟩,Q1⟩
    case measure=>have:=HM.out;simp[intOf];omega
   ·have TB:p≤m:=ad5.1 fun h=>TA (oP.2 (qH.2 h))
    have HZ:=Hd TB;clear TB oP qH nU;go_wp2_with fail;refine Cv.out.mono ?_;rintro e w1 ⟨rfl,q⟩;have Q1:=Hd (HQ.out.trans q);clear q;go_wp2_with fail;go_roundw;case rel=>exact⟨x,m,by have:=HM.out;omega,by have:=HM.out;omega,rfl,rfl,⟨HI.out.1,HZ.out⟩,Q1⟩
    case measure=>have:=HM.out;simp[intOf];omega
  ·obtain rfl:x=y:=U
   obtain rfl:p=x:=by have:=HI.out;omega
   by_cases gK:p<l.length
   ·obtain⟨b,off,rfl,hd⟩:=HC.out U
    obtain⟨av,c0,c1,c2,c3,_⟩:=hd p gK;have c0:=aj HQ.out c0;have c1:=aj HQ.out c1;have c2:=aj HQ.out c2;have c3:=aj HQ.out c3;have kR:=p8.out p gK av wo HQ.out;have V4:=HIE.out gK;have Cv:=Hd kR;have hpi:(p:Int)<(l.length:Int):=U;clear kR hd;generalize l[p]=f at *;obtain⟨fn,fs,fz,fx⟩:=f;simp only at c0 c1 c2 V4;generalize nU:io fn s=cr at *;have hz:(cr==0)=fo:=by rw[V4];rfl
    clear nU V4;go_wp2_with fail;refine Cv.out.mono ?_;rintro e w1 ⟨rfl,q⟩;have Q1:=Hd (HQ.out.trans q);clear q;go_wp2_with fail;go_returns;exact⟨rfl,Q1.out⟩
   ·have Mq:=Zi.out gK
    have hpi:¬(p:Int)<(l.length:Int):=U;subst Mq;go_wp2_with fail;go_returns;exact⟨rfl,HQ.out⟩
theorem J8(v:Value)(l:List ax)(s:Bytes)(w:World)(h:eQ w v l)(hl:l.length≤1000000)(hr:l.Pairwise fun a b=>a.name<b.name):
  Calls prog 66 #[v,ah s] w fun e w'=>e=.returned (.tuple #[.int .i64 (aA l s:Nat),.bool (isF l s)])∧Q w w':=by
 have hq:=Q.alloc w (.cells #[.func (.func 85) #[] #[]] 149);have hb:=C6 v l s w.heap.size _ (h.stays hq) hl hr ((Blk.new w 149 #[.func (.func 85) #[] #[]]).cell 0 _ rfl);obtain⟨a,cap,rfl,_⟩:=h.value;have HB:=Hd hb;have HQ:=Hd hq;clear hb hq h hr;generalize aA l s=p at *;generalize isF l s=fo at *;have rD:Calls prog 121 #[.slice a l.length cap,.func (.func 85) #[] #[],ah s] w fun e w'=>e=.returned (.tuple #[.int .i64 (p:Nat),.bool fo])∧Q w w':=by
  go_enter func121,ntmps121;go_wp2_with fail;refine HB.out.mono ?_;rintro e w1 ⟨rfl,q⟩;have Q1:=Hd (HQ.out.trans q);clear q;go_wp2_with fail;go_returns;exact⟨rfl,Q1.out⟩
 have HS:=Hd rD;clear rD HB HQ;go_enter func66,ntmps66;go_wp2_with fail;refine HS.out.mono ?_;rintro e w1 ⟨rfl,q⟩;have Q1:=Hd q;clear q;go_wp2_with fail;go_returns;exact⟨rfl,Q1.out⟩
theorem rh(v:Value)(l:List ax)(w:World)(h:eQ w v l)(hl:l.length≤1000000)(hr:l.Pairwise fun a b=>a.name<b.name):
  Calls prog 84 #[v,.func (.func 85) #[] #[]] w fun e w'=>e=.returned (.bool true)∧Q w w':=by
 obtain⟨a,cap,rfl,hc⟩:=h.value;have kS:=fun (k:Nat) (h1:k<l.length) (h2:k+1<l.length)=>SD.1 hr k (k+1) h1 h2 (acw k)
 have HC:=Hd hc;have HR:=Hd kS;clear hc kS h hr;have eg:∀args w,(callFunc 85 args).run prog w=.ok (.enter 85 args) w:=enters_of func85 (by kernel_rfl) rfl
 go_enter func84,ntmps84;go_wp2_with fail;go_loopw [5] (fun i wr=>∃k:Nat,i=.int .i64 ((k:Int)+1)∧(k=0∨k<l.length)∧Hid (Q w wr)) (fun i _=>l.length-(intOf i).toNat)
 case atStart=>exact⟨0,rfl,.inl rfl,Q.refl w⟩
 case round =>
  obtain⟨k,rfl,hk,HQ⟩:=hrel;obtain⟨wo,rfl⟩:∃wo:World,wo=wr:=⟨_,rfl⟩;by_cases ay:k+1<l.length
  ·have bq:(k:Int)+1<(l.length:Int):=U
   have lT:(0:Int)≤(k:Int):=U;have iN:(k:Int)<(l.length:Int):=U;have Bv:(0:Int)≤(k:Int)+1:=U;have ht:((k:Int)+1).toNat=k+1:=U;have gD:IntKind.i64.wrap (k:Int)=(k:Int):=IntWalk.i64_in _ U;have hw:IntKind.i64.wrap ((k:Int)+1-1)=(k:Int):=by rw[IntWalk.i64_in _ U];omega
   obtain⟨b,off,rfl,hd⟩:=HC.out U;obtain⟨av,a0,a1,a2,a3,_⟩:=hd k U;obtain⟨bv,b0,b1,b2,b3,_⟩:=hd (k+1) ay;have a0:=aj HQ.out a0;have a1:=aj HQ.out a1;have a2:=aj HQ.out a2;have a3:=aj HQ.out a3;have b0:=aj HQ.out b0;have b1:=aj HQ.out b1;have b2:=aj HQ.out b2;have b3:=aj HQ.out b3;have mU:=HR.out k U ay;have na:=fun W=>Gr l[k] av W
   have nb:=fun W=>Gr l[k+1] bv W
   have NA:=Hd na;have NB:=Hd nb;clear hd na nb;generalize l[k+1]=f2 at *;generalize l[k]=f at *;obtain⟨fn,fs,fz,fx⟩:=f;obtain⟨gn,gs,gz,gx⟩:=f2;simp only at a0 a1 a2 b0 b1 b2 mU;have hge:=J7 fn gn;rw[MM mU] at hge;have HK:=Hd (And.intro ay hk);clear hk ay mU;have KK:=Hd (Q.refl wo);go_wp2_with fail
   (go_region_held3 (fun w'=>w'.cell? ⟨b,off+k*4,none⟩=some (ah fn)∧w'.cell? ⟨b,off+k*4+1,none⟩=some (.bool fs)∧w'.cell? ⟨b,off+k*4+2,none⟩=some (.int .i64 (fz:Nat))∧w'.cell? ⟨b,off+k*4+3,none⟩=some av ∧
     w'.cell? ⟨b,off+(k+1)*4,none⟩=some (ah gn)∧w'.cell? ⟨b,off+(k+1)*4+1,none⟩=some (.bool gs)∧w'.cell? ⟨b,off+(k+1)*4+2,none⟩=some (.int .i64 (gz:Nat))∧w'.cell? ⟨b,off+(k+1)*4+3,none⟩=some bv)
    (exact eight δ a0 a1 a2 a3 b0 b1 b2 b3)
    (first
     | (go_simp;with_reducible refine(NA.out _).mono ?_;rintro e w3 ⟨rfl,q3⟩;have s':Q wo w3:=Q.trans ω q3;clear KK;have KK:=Hd s';clear s' q3)
     | (go_simp;with_reducible refine(NB.out _).mono ?_;rintro e w3 ⟨rfl,q3⟩;have s':Q wo w3:=Q.trans ω q3;clear KK;have KK:=Hd s';clear s' q3)))
   all_goals
    go_wp2_with fail;go_roundw;case rel=>exact⟨k+1,by go_num,.inr HK.out.1,HQ.out.trans KK.out⟩
    case measure=>have:=HK.out.1;simp[intOf];omega
  ·have bq:¬(k:Int)+1<(l.length:Int):=U
   go_wp2_with fail;go_ret;exact⟨rfl,HQ.out⟩
theorem J9(x:List (Nat×Nat)):(aT x).length=total x:=by
 unfold aT total;induction x with
 | nil=>rfl
 | cons e x ih=>rw[NO,Δ,ih,WF,No,List.sum_cons]
theorem Xm(x:List (Nat×Nat))(k:Nat):total (x.take k)≤total x:=by
 unfold total;conv=>rhs;rw[←OR k x]
 rw[N5,List.sum_append];omega
theorem Xn(x:List (Nat×Nat))(k:Nat)(h:k<x.length):total (x.take (k+1))=total (x.take k)+x[k].2:=by
 rw[Mb h,Et]
theorem ge.wide{first n a b:Nat}{f:ax}(h:ge first n f)(h1:a≤first)(h2:n≤b):ge a b f :=
 ⟨h.name,h.size,h.few,fun e he=>by have:=h.ext e he;omega,h.need⟩
theorem cN.wide{first n a b:Nat}{l:List ax}(h:cN first n l)(h1:a≤first)(h2:n≤b):cN a b l:=⟨h.few,h.rise,fun f hf=>(h.ok f hf).wide h1 h2,h.apart⟩
theorem uB(f:ax)(av:Value)(first n:Nat)(w:World)(h:ge first n f)(hn:n≤4096)(ha:Sl w av f.ext.length 2 (ext f.ext)):
  Calls prog 86 #[oN f av,.int .i64 (first:Nat),.int .i64 (n:Nat)] w fun e w'=>e=.returned (.bool true)∧Q w w':=by
 obtain⟨_,bP,vM,YJ,Cc⟩:=h;obtain⟨a,cap,rfl,hc⟩:=jS ha;have hq:=Q.alloc w (.cells #[ah f.name,.bool f.sl,.int .i64 (f.size:Nat),.slice a f.ext.length cap] 48);have hb:=Blk.new w 48 #[ah f.name,.bool f.sl,.int .i64 (f.size:Nat),.slice a f.ext.length cap];obtain⟨b0,b1,b2,b3,_⟩:=hb.c4;generalize dO:w.alloc (.cells #[ah f.name,.bool f.sl,.int .i64 (f.size:Nat),.slice a f.ext.length cap] 48)=wa at *;have abS:f.bl.length=total f.ext:=J9 f.ext;have TD:∀k,total (f.ext.take k)≤9000000:=fun k=>by have:=Xm f.ext k;unfold cB at Cc;omega
 have abT:=fun k hk=>Xn f.ext k hk
 have hend:total (f.ext.take f.ext.length)=(f.size+255) / 256:=by rw[M1,←abS,Cc];rfl
 have abU:=fun (k:Nat) (hk:k<f.ext.length)=>YJ _ (LO hk)
 have HC:=Hd hc;have HT:=Hd TD;have HS:=Hd abT;have HE:=Hd hend;have HX:=Hd abU;have mF:=Hd hq;have HB:=Hd hb;clear hc TD abT hend abU hq hb ha YJ Cc abS;have e1:¬(f.size:Int)<0:=U;have e2:¬(f.size:Int)>2147483647:=U;have e3:¬(f.ext.length:Int)>16:=U;obtain⟨fn,fs,fz,fx⟩:=f;simp only at *;go_enter func86,ntmps86;go_wp2_with fail;go_loopw [7,27] (fun u i wr=>∃k:Nat,u=.int .i64 (total (fx.take k):Nat)∧i=.int .i64 (k:Nat)∧k≤fx.length∧Hid (Q wa wr)) (fun _ i _=>fx.length-(intOf i).toNat)
 case atStart=>exact⟨0,rfl,rfl,L0 _,Q.refl _⟩
 case round =>
  obtain⟨k,rfl,rfl,hk,HQ⟩:=hrel;obtain⟨wo,rfl⟩:∃wo:World,wo=wr:=⟨_,rfl⟩;have c2:=aj HQ.out b2;by_cases ay:k<fx.length
  ·have bq:(k:Int)<(fx.length:Int):=U
   have lT:(0:Int)≤(k:Int):=U;obtain⟨b,off,rfl,hd⟩:=HC.out U;obtain⟨x0,x1⟩:=hd k ay;replace x0:=aj HQ.out (aj mF.out x0);replace x1:=aj HQ.out (aj mF.out x1);obtain⟨y1,y2,y3⟩:=HX.out k ay;have aC:=HS.out k ay;have ht:=HT.out k;have eG:=HQ.out.trans (Q.alloc wo (.cells #[.int .i64 (fx[k].1:Nat),.int .i64 (fx[k].2:Nat)] 87));have g1:¬(fx[k].2:Int)<1:=U;have g2:¬(fx[k].1:Int)<(first:Int):=U
   have g3:¬(fx[k].1:Int)≥(n:Int):=U;have g4:IntKind.i64.wrap ((n:Int)-(fx[k].1:Int))=(n:Int)-(fx[k].1:Int):=IntWalk.i64_in _ U;have g5:¬(fx[k].2:Int)>(n:Int)-(fx[k].1:Int):=U;have g6:IntKind.i64.wrap ((total (fx.take k):Int)+(fx[k].2:Int))=((total (fx.take (k+1)):Nat):Int):=by rw[IntWalk.i64_in _ U];omega
   have HD:=Hd (And.intro ay aC);have bJ:=Hd eG;clear hd aC eG ht y1 y2 y3 hk;generalize fx[k]=e at *;obtain⟨ea,ec⟩:=e;clear ay;simp only at x0 x1 g1 g2 g3 g4 g5 g6;generalize total (fx.take k)=tk at *;generalize hT1:total (fx.take (k+1))=tk1 at *;have D7:=Hd hT1;clear hT1;go_wp2_with fail;go_roundw;case rel=>exact⟨k+1,by rw[D7.out],by go_num,HD.out.1,bJ.out⟩
   case measure=>have:=HD.out.1;simp[intOf];omega
  ·obtain rfl:k=fx.length:=U
   have he:=HE.out;rw[M1] at he;have HH:=Hd he;clear he;go_wp2_with fail;go_ret;exact⟨JN (by rw[HH.out];simp;try omega),mF.out.trans HQ.out⟩
end
section
open Go.Shelf Go.RowKit Go.Lib Go.Sort
open Go.RowKit
shelf_lay_g SlLaysF0.n6 Slsf 6 at Tryz 87 as Tryz.sortExt
abbrev ja:=Fin 65536×Nat
def zP(x:ja):List Value:=[.int .i64 (x.1.val:Nat),.int .i64 (x.2:Nat)]
def kA(x y:ja):Int:=(x.1.val:Int)-(y.1.val:Int)
def uJ(xs:List ja):List (Nat×Nat):=xs.map fun x=>(x.1.val,x.2)
theorem nF(xs:List ja)(j:Nat)(hj:j<xs.length*2):(ext (uJ xs))[j]?=some ((zP xs.toArray[j / 2]!)[j%2]!):=by
 have hi:j / 2<xs.length:=U;have e:xs.toArray[j / 2]! = xs[j / 2]:=by rw[ZZ xs.toArray (j / 2) (by simpa using hi)];simp
 obtain⟨h0,h1⟩:=FZ (uJ xs) (j / 2) (by unfold uJ;rw[NE];exact hi)
 rw[e];have hm:(uJ xs)[j / 2]'(by unfold uJ;rw[NE];exact hi)=(xs[j / 2].1.val,xs[j / 2].2):=by unfold uJ;rw[ace]
 rw[hm] at h0 h1;rcases ada j with h|h
 ·have qF:j=2*(j / 2):=U
  rw[h];conv=>lhs;rw[qF]
  exact h0
 ·have qF:j=2*(j / 2)+1:=U
  rw[h];conv=>lhs;rw[qF]
  exact h1
theorem Xo{w:World}{base g cap:Nat}{xs:List ja}(ho:w.ownsRow base 87 2 (.slice (some ⟨g,0,none⟩) xs.length cap) xs.length (ext (uJ xs))):Go.Sort.HoldsK zP 2 w g 0 xs.toArray:=by
 intro j hj;rw[Go.Sort.size_flatK] at hj;have xR:j<xs.length*2:=by simpa using hj
 obtain⟨_,a,c,hv,hc⟩:=Sl.cx ho;obtain⟨b,off,hb,kR⟩:=hc U;have LU:some ⟨g,0,none⟩=a:=by cases hv;rfl
 rw[hb] at LU;cases LU;rw[Go.Sort.get_flatK _ _ _ _ hj];refine⟨kR j _ (nF xs j xR),?_⟩;obtain⟨cs,mQ⟩:=oH ho g rfl;simp[World.frozen?,mQ]
theorem U0(w:World)(blk off n:Nat)(d:Array ja)(os:Array Obj):w.grownBy (sortWorldK zP 2 w blk off n d os) (some blk):=by
 refine⟨rfl,rfl,rfl,?_,fun k hk aU=>?_⟩
 ·unfold sortWorldK
  rw[Go.Sort.size_grow];have:(Go.Sort.putRowK zP 2 (Go.Sort.ahead w n) blk off d).heap.size=w.heap.size:=by rw[Go.Sort.size_putRowK];rfl
  omega
 ·have hb:blk≠k:=fun e=>aU (by rw[e])
  have hs:(Go.Sort.putRowK zP 2 (Go.Sort.ahead w n) blk off d).heap.size=w.heap.size:=by rw[Go.Sort.size_putRowK];rfl
  show((Go.Sort.putRowK zP 2 (Go.Sort.ahead w n) blk off d).heap++os)[k]?=w.heap[k]?;rw[adf U];show(w.heap.modify blk _)[k]?=w.heap[k]?;rw[T0,η hb]
theorem yn(cap:Nat)(w:World)(x:Value):Calls prog 228 #[.slice none 0 cap,.int .i64 0,.int .i64 0,x] w fun e w'=>e=.returned (.tuple #[])∧w=w':=by
 go_enter func228,ntmps228;go_wp2_with fail;go_loopw [8] (fun i wr=>i=.int .i64 1∧w=wr) (fun _ _=>0)
 case atStart=>exact⟨rfl,rfl⟩
 case round =>
  obtain⟨rfl,rfl⟩:=hrel;go_wp2_with fail;go_end0;exact⟨rfl,rfl⟩
theorem yi(cap:Nat)(w:World)(x:Value)(n:Nat):Calls prog 162 #[.slice none 0 cap,.int .i64 0,.int .i64 0,.int .i64 (n:Nat),x] w fun e w'=>e=.returned (.tuple #[])∧w=w':=by
 go_enter func162,ntmps162;go_wp2_with fail;go_loopw [1,2] (fun x y wr=>x=.int .i64 0∧y=.int .i64 0∧w=wr) (fun _ _ _=>0)
 case atStart=>exact⟨rfl,rfl,rfl⟩
 case round =>
  obtain⟨rfl,rfl,rfl⟩:=hrel;go_wp2_with (go_at_call 228;refine(yn _ _ _).mono ?_;rintro e w' ⟨rfl,rfl⟩);refine bodyPost_ret (results_none rfl _ _ _) rfl ?_;exact⟨rfl,rfl⟩
theorem qT(cap:Nat)(w:World)(x:Value):Calls prog 87 #[.slice none 0 cap,x] w fun e w'=>e=.returned (.tuple #[])∧w=w':=by
 go_enter func87,ntmps87;go_wp2_with (first|(go_at_call 163;refine(Tryz.bits_Len 0 _ Z Z).mono ?_;rintro e w' ⟨rfl,rfl⟩)|(go_at_call 162;refine(yi _ _ _ _).mono ?_;rintro e w' ⟨rfl,rfl⟩))
 go_end0;exact⟨rfl,rfl⟩
theorem yr(x y:ja)(w:World):Calls prog 88 #[.agg #[.int .i64 (x.1.val:Nat),.int .i64 (x.2:Nat)],.agg #[.int .i64 (y.1.val:Nat),.int .i64 (y.2:Nat)]] w fun e w'=>e=.returned (.int .i64 (kA x y))∧∃(q:Nat) (os:Array Obj),w'=Go.Sort.grow (w.drewN q) os:=by
 obtain⟨⟨a,ha⟩,b⟩:=x;obtain⟨⟨c,hc⟩,d⟩:=y;unfold kA;simp only;have hw:IntKind.i64.wrap ((a:Int)-(c:Int))=(a:Int)-(c:Int):=IntWalk.i64_in _ U;go_enter func88,ntmps88;go_wp2_with fail;go_ret;refine⟨rfl,0,#[.cells #[.int .i64 (a:Nat),.int .i64 (b:Nat)] 87,.cells #[.int .i64 (c:Nat),.int .i64 (d:Nat)] 87],?_⟩;rw[Go.Sort.alloc_eq_grow,Go.Sort.alloc_eq_grow,Go.Sort.grow_grow];rfl
theorem Bi(blk off size:Nat)(w:World):CmpLays prog 88 #[] zP 2 kA blk off size w:=fun _ _ _ _ x y=>yr x y _
theorem ltE(x y:ja):ltOf kA x y=decide (x.1.val<y.1.val):=by
 show decide (kA x y<0)=_;unfold kA;rw[abR];simp only[TX];omega
theorem swoE:Go.Sort.SWO (ltOf kA) where
 irrefl x:=by rw[ltE];simp
 trans x y z h1 h2:=by rw[ltE,TX] at *;omega
 ntrans x y z h1 h2:=by rw[ltE,adM] at *;omega
theorem vj(base:Nat)(v:Value)(xs:List (Nat×Nat))(W:World)(ho:W.ownsRow base 87 2 v xs.length (ext xs))(hlen:xs.length≤1000000000)(hx:∀e∈xs,e.1<65536):
  Calls prog 87 #[v,.func (.func 88) #[] #[]] W fun e w'=>e=.returned (.tuple #[])∧(∃ys:List (Nat×Nat),ys.Perm xs∧ys.Pairwise (fun a b=>a.1≤b.1)∧Sl w' v ys.length 2 (ext ys))∧∀n₀,n₀≤base→n₀≤W.heap.size→Below n₀ W w':=by
 obtain⟨zs,hz⟩:∃zs:List ja,uJ zs=xs:=by
  clear ho hlen;induction xs with
  | nil=>exact⟨[],rfl⟩
  | cons e xs ih =>
   obtain⟨zs,hz⟩:=ih (fun y hy=>hx y (Mn _ hy))
   exact⟨(⟨e.1,hx e (Mu ..)⟩,e.2)::zs,by unfold uJ at *;rw[No,hz]⟩
 subst hz;have kG:∀zs:List ja,(uJ zs).length=zs.length:=fun zs=>by unfold uJ;rw[NE]
 rw[kG] at ho hlen;obtain⟨a,cap,rfl,CO⟩:=aY ho;rcases ho.2 with ⟨hv,h0⟩|⟨g,cap',cur,hv,hb,hg,_⟩
 ·injection hv with e1 e2 e3
  subst e1;subst e3;rw[h0];refine(qT _ W _).mono ?_;rintro e w' ⟨rfl,rfl⟩;obtain rfl:zs=[]:=NL U;exact⟨rfl,⟨[],List.Perm.nil,List.Pairwise.nil,Sl.nil _ 2⟩,fun n₀ _ _=>Below.refl _ _⟩
 ·injection hv with e1 e2 e3
  subst e1;subst e3;have hH:=Xo ho;have ay:=(ho.lt g rfl).2;have eg:∀args w,(callFunc 88 args).run prog w=.ok (.enter 88 args) w:=enters_of func88 (by kernel_rfl) rfl
  have aaQ:=AnyQ.slices_SortFunc Tryz.sortExt 2 Tryz.isAgg87 Tryz.sizeOf87 zP (fun _=>rfl) (fun x v hv=>by simp[zP] at hv;rcases hv with rfl|rfl<;>rfl) kA swoE 88 #[] g 0 cap zs.toArray W eg (Bi g 0 _ W) hH ay (by simp;omega)
  have e:zs.toArray.size=zs.length:=κ;rw[e] at aaQ;change Calls prog 87 _ _ _ at aaQ;refine aaQ.mono ?_;rintro e w' ⟨rfl,d',n,os,hp,hs',rfl⟩;have bP:d'.size=zs.length:=by have:=hp.1;simpa using this
  have hK:Go.Sort.HoldsK zP 2 (sortWorldK zP 2 W g 0 n d' os) g 0 d':=holdsK_sortWorldK_c zP 2 W g 0 zs.toArray d' n os hH ay hp.1;have zA:d'.toList.Perm zs:=by
   have h2:=hp.2.2;have e1:zs.toArray.extract 0 zs.length=zs.toArray:=κ;have e2:d'.extract 0 zs.length=d':=by rw[←bP];exact Array.extract_size
   rw[e1,e2] at h2;simpa using h2
  refine⟨rfl,⟨uJ d'.toList,zA.map _,?_,?_⟩,fun n₀ h1 h2=>(Below.refl _ _).grown (U0 W g 0 n d' os) h2 (fun k hk=>by cases hk;omega)⟩
  ·unfold uJ
   rw[abv,SD];intro i j hi hj GQ;have xR:j<d'.size:=by simpa using hj
   have pK:i<d'.size:=by simpa using hi
   have h:=hs' i j (L0 _) GQ U;rw[ltE,adM,ZZ d' i pK,ZZ d' j xR] at h;simpa using h
  ·refine⟨by rw[jO],some ⟨g,0,none⟩,cap,by rw[kG];simp[bP],fun hn=>⟨g,0,rfl,fun j u hj=>?_⟩⟩
   have zD:j<d'.toList.length*2:=by
    have:=(NX.1 hj).1;rwa [jO,kG] at this
   have Zq:=nF d'.toList j zD;rw[hj] at Zq;have hc:=(hK.cell (i:=j / 2) (c:=j%2) (by simp at zD;omega) U).1
   rw[acG Zq,show d'.toList.toArray=d' by simp,←hc]
   congr 2;omega
end
section
open Go.RowKit
def nJ(l:List ax):List (Nat×Nat):=l.flatMap ax.ext
theorem NW(l:List ax):aT (nJ l)=fD l:=by unfold aT nJ fD ax.bl aT;rw[List.flatMap_assoc]
theorem NY(l:List ax)(k:Nat)(h:k<l.length):nJ (l.take (k+1))=nJ (l.take k)++l[k].ext:=by
 unfold nJ;rw[Mb h,Sf,NO,VS,NF]
theorem Ka{first n:Nat}{l:List ax}(h:∀f∈l,ge first n f)(k:Nat):(nJ (l.take k)).length≤16*l.length:=by
 have:∀m:List ax,(∀f∈m,f∈l)→(nJ m).length≤16*m.length:=by
  intro m;induction m with
  | nil=>intro _;exact Ω _
  | cons f m ih =>
   intro hm;have h1:=ih (fun g hg=>hm g (Mn _ hg))
   have h2:=(h f (hm f (Mu ..))).few;unfold nJ at *;rw[NO,Δ,Θ];omega
 refine LS (this _ (fun f hf=>P3 hf)) ?_
 rw[L4];omega
theorem Kc{first n:Nat}{l:List ax}(h:∀f∈l,ge first n f):∀e∈nJ l,1≤e.2∧first≤e.1∧e.1+e.2≤n:=fun e he=>by
 obtain⟨f,hf,he⟩:=Pi.1 he
 exact(h f hf).ext e he
theorem Xp{first n:Nat}{l:List ax}(h:cN first n l){ys:List (Nat×Nat)}(hp:ys.Perm (nJ l))(hs:ys.Pairwise fun a b=>a.1≤b.1)(k:Nat)(hk:k+1<ys.length):ys[k].1+ys[k].2≤ys[k+1].1:=by
 have hm:=fun (j:Nat) (hj:j<ys.length)=>Kc h.ok _ (hp.mem_iff.1 (LO hj))
 have h1:=hm k U;have h2:=hm (k+1) hk;have h3:=SD.1 hs k (k+1) U hk (acw k);have lU:(aT ys).Nodup:=by
  have:(aT ys).Perm (aT (nJ l)):=hp.flatMap_right _;rw[NW] at this;exact this.nodup_iff.2 h.apart
 refine ad5.1 (fun ay=>?_)
 have e:ys=ys.take k++ys[k]::ys[k+1]::ys.drop (k+2):=by
  conv=>lhs;rw[←OR k ys,PQ (by omega:k<ys.length),PQ hk]
 rw[e] at lU;unfold aT at lU;rw[Sf,NO,NO] at lU;have hd:=(PT.1 (PT.1 lU).2.1).2.2;exact hd ys[k+1].1 (Su.2 U) ys[k+1].1 (My.2 (.inl (Su.2 U))) rfl
theorem zl:(prog.info? 87).map (fun i=>(i.zero,i.size,i.bytes))=some (some (.agg #[.int .i64 0,.int .i64 0]),2,16):=by kernel_rfl
theorem oE(xs:List (Nat×Nat)):∀u∈ext xs,u.oneCell'=true:=by
 intro u hu;unfold ext at hu;obtain⟨e,_,he⟩:=Pi.1 hu;simp at he;rcases he with rfl|rfl<;>rfl
theorem Ke(v:Value)(l:List ax)(first n:Nat)(w:World)(h:eQ w v l)(hd:cN first n l)(hn:n≤4096):
  Calls prog 40 #[v,.int .i64 (first:Nat),.int .i64 (n:Nat)] w fun e w'=>e=.returned (.bool true)∧Q w w':=by
 obtain⟨i0,hi,bY,bB,aW⟩:=info_parts zl;have Co:=rh v l w h (by have:=hd.few;omega) hd.rise
 have aC:=fun (W:World) (q:Q w W)=>h.stays q
 obtain⟨a,cap,rfl,_⟩:=h.value;have pF:=hd.few;have bQ:=fun (k:Nat) (hk:k<l.length)=>hd.ok _ (LO hk)
 have nA:=fun k hk=>NY l k hk
 have fT:=fun k=>Ka hd.ok k
 have ig:=fun (W:World) (v:Value) (ho:W.ownsRow w.heap.size 87 2 v (nJ l).length (ext (nJ l)))=>vj w.heap.size v (nJ l) W ho (by have:=fT l.length;rw[M1] at this;omega) (fun e he=>by have:=Kc hd.ok e he;omega)
 have uV:=fun ys hp hs k hk=>Xp hd (ys:=ys) hp hs k hk
 have Mc:=fun (ys:List (Nat×Nat)) (hp:ys.Perm (nJ l)) (e:Nat×Nat) (he:e∈ys)=>Kc hd.ok e (hp.mem_iff.1 he)
 have LX:=Hd Co;have aX:=Hd aC;have pq:=Hd bQ;have CQ:=Hd nA;have uN:=Hd fT;have Bo:=Hd ig;have JD:=Hd uV;have HME:=Hd Mc;clear Co aC bQ nA fT ig uV Mc h hd;have hf:¬(l.length:Int)>64:=U;have m1:max (first:Int) 0=(first:Int):=U
 have m2:min (n:Int) 4096=(n:Int):=U;go_enter func40,ntmps40;go_wp2_with fail;refine LX.out.mono ?_;rintro e w1 ⟨rfl,q1⟩;have Q1:=Hd q1;clear q1;go_wp2_with fail;go_loopw [7,25] (fun u i wr=>∃k:Nat,wr.ownsRow w.heap.size 87 2 u (nJ (l.take k)).length (ext (nJ (l.take k)))∧i=.int .i64 (k:Nat)∧k≤l.length∧Hid (Q w wr)) (fun _ i _=>l.length-(intOf i).toNat)
 case atStart=>exact⟨0,World.ownsRow_nil _ _ _ _,rfl,L0 _,Q1⟩
 case round =>
  obtain⟨k,ho,rfl,hk,HQ⟩:=hrel;obtain⟨wo,rfl⟩:∃wo:World,wo=wr:=⟨_,rfl⟩;by_cases ay:k<l.length
  ·have bq:(k:Int)<(l.length:Int):=U
   have lT:(0:Int)≤(k:Int):=U;obtain⟨a',cap',e',hv⟩:=(aX.out wo HQ.out).value;cases e';obtain⟨b,off,rfl,hc⟩:=hv U;obtain⟨av,c0,c1,c2,c3,bX⟩:=hc k ay;obtain⟨ea,ecap,rfl,_⟩:=jS bX;have bQ:=pq.out k ay;have nA:=CQ.out k ay;have mG:=uN.out k;have fF:=uN.out (k+1);rw[nA] at fF;have eG:=Q.alloc wo (.cells #[ah l[k].name,.bool l[k].sl,.int .i64 (l[k].size:Nat),.slice ea l[k].ext.length ecap] 48);have bZ:=Blk.new wo 48 #[ah l[k].name,.bool l[k].sl,.int .i64 (l[k].size:Nat),.slice ea l[k].ext.length ecap];have qO:=fun W=>EH l[k].name W (by have:=Re bQ.name;omega)
   rw[bQ.name] at qO;have dQ:=fun (W:World) (q:Q wo W)=>uB l[k] (.slice ea l[k].ext.length ecap) first n W bQ hn (bX.stays q)
   have Dx:=fun (W:World) (q:Q wo W)=>bX.stays q
   have HOW:=Hd ho;have bJ:=Hd eG;have ou:=Hd bZ;have JI:=Hd qO;have pY:=Hd dQ;have xG:=Hd Dx;have Ah:=Hd (And.intro ay (And.intro nA (And.intro mG fF)));clear ho eG bZ qO dQ Dx bX hc hv nA mG fF bQ hk;generalize Pe:l[k]=f at *;clear Pe;obtain⟨fn,fs,fz,fx⟩:=f;simp only at c0 c1 c2;go_wp2_with fail;obtain⟨b0,b1,b2,b3,_⟩:=ou.out.c4;refine(JI.out _).mono ?_;rintro e w2 ⟨rfl,q2⟩;have b0:=aj q2 b0;have b1:=aj q2 b1;have b2:=aj q2 b2;have b3:=aj q2 b3;have Q2:=Hd (bJ.out.trans q2);clear q2;go_wp2_with fail;refine(pY.out _ Q2.out).mono ?_;rintro e w3 ⟨rfl,q3⟩;have b3:=aj q3 b3;have Q3:=Hd (Q2.out.trans q3);clear q3;have HO3:=Hd (ownsRow_below HOW.out Q3.out);have HS3:=Hd (xG.out _ Q3.out);have H1:=Hd (oE fx);have H2:Hid ((nJ (l.take k)).length+fx.length≤maxLen):=Hd (by have:=Ah.out.2.2.2;rw[Δ] at this;unfold maxLen;omega)
   have H3:Hid (((nJ (l.take k)).length+fx.length)*16≤140737488355328):=Hd (by have:=Ah.out.2.2.2;rw[Δ] at this;omega)
   have H4:Hid (w.heap.size≤w3.heap.size):=Hd (HQ.out.trans Q3.out).size;go_wp2_with (at_builtin;refine fM w3 ρ _ _ 46 ρ w.heap.size 87 i0 (.agg #[.int .i64 0,.int .i64 0]) 2 16 underlying46 hi bY bB aW rfl Z _ _ _ ρ HO3.out _ _ _ ρ HS3.out H1.out H2.out H3.out H4.out ?_)
   intro v' w4 Cq lV _;have lH:=Hd (Below.grown (HQ.out.trans Q3.out) lV H4.out (fun j hj=>(HO3.out.lt j hj).1))
   have Pf:=Hd Cq;clear Cq lV;go_wp2_with fail;go_roundw;case rel=>exact⟨k+1,by rw[Ah.out.2.1,Δ,jP];exact Pf.out,by go_num,Ah.out.1,lH⟩
   case measure=>have:=Ah.out.1;simp[intOf];omega
  ·obtain rfl:k=l.length:=U
   rw[M1] at ho;obtain⟨ua,ucap,rfl,_⟩:=aY ho;have ig:=Bo.out wo _ ho;have HS:=Hd ig;clear ig ho;have Ac:(nJ l).length≤1024:=by have:=uN.out l.length;rw[M1] at this;omega
   generalize nJ l=xs at *;go_wp2_with fail;refine HS.out.mono ?_;rintro e w2 ⟨rfl,⟨ys,hp,hs,hy⟩,hb⟩;have hql:=hp.length_eq;have bJ:=Hd (Below.trans HQ.out (hb _ (Ω _) HQ.out.size));have uV:=fun k hk=>JD.out ys hp hs k hk
   have Mc:=fun (k:Nat) (hk:k<ys.length)=>HME.out ys hp _ (LO hk)
   obtain⟨_,_,e',ZH⟩:=jS hy;injection e' with e1 e2 e3;subst e1;subst e3;have Ib:ys.length≤1024:=U;generalize xs.length=m at *;subst hql;clear e2;have HP:=Hd uV;have HM:=Hd Mc;have HY:=Hd ZH;clear uV Mc ZH hp hs hy hb HS;go_wp2_with fail;go_loopw [10] (fun i wr=>∃k:Nat,i=.int .i64 ((k:Int)+1)∧(k=0∨k<ys.length)∧Hid (Q w2 wr)) (fun i _=>ys.length-(intOf i).toNat)
   case atStart=>exact⟨0,rfl,.inl rfl,Q.refl _⟩
   case round =>
    obtain⟨k,rfl,hk,V5⟩:=hrel;obtain⟨wo2,rfl⟩:∃wo:World,wo=wr:=⟨_,rfl⟩;by_cases ay:k+1<ys.length
    ·have bq:(k:Int)+1<(ys.length:Int):=U
     have lT:(0:Int)≤(k:Int):=U;have iN:(k:Int)<(ys.length:Int):=U;have Bv:(0:Int)≤(k:Int)+1:=U;have ht:((k:Int)+1).toNat=k+1:=U;have gD:IntKind.i64.wrap (k:Int)=(k:Int):=IntWalk.i64_in _ U;have hw:IntKind.i64.wrap ((k:Int)+1-1)=(k:Int):=by rw[IntWalk.i64_in _ U];omega
     obtain⟨b,off,rfl,hc⟩:=HY.out U;obtain⟨x0,x1⟩:=hc k U;obtain⟨y0,y1⟩:=hc (k+1) ay;replace x0:=aj V5.out x0;replace x1:=aj V5.out x1;replace y0:=aj V5.out y0;replace y1:=aj V5.out y1;have h1:=HP.out k ay;have h2:=HM.out k U;have h3:=HM.out (k+1) ay;have g1:IntKind.i64.wrap ((ys[k].1:Int)+(ys[k].2:Int))=(ys[k].1:Int)+(ys[k].2:Int):=IntWalk.i64_in _ U;have g2:¬(ys[k].1:Int)+(ys[k].2:Int)>(ys[k+1].1:Int):=U;have HK:=Hd (And.intro ay hk);clear hk hc h1 h2 h3;generalize ys[k+1]=y at *;generalize ys[k]=x at *;clear ay;obtain⟨xa,xc⟩:=x;obtain⟨ya,yc⟩:=y;simp only at x0 x1 y0 y1 g1 g2;go_wp2_with fail;go_quiet (fail);go_wp2_with fail;go_roundw;case rel=>exact⟨k+1,by go_num,.inr HK.out.1,V5.out.trans (Q.drewN _ _)⟩
     case measure=>have:=HK.out.1;simp[intOf];omega
    ·have bq:¬(k:Int)+1<(ys.length:Int):=U
     go_wp2_with fail;go_ret;exact⟨rfl,Below.trans bJ.out (Below.mono V5.out bJ.out.size)⟩
theorem hsum(a b:Bytes)(h:a.length+b.length≤9223372036854775807)(W:World):(Op.stringOp .add ⟨a.toArray⟩ ⟨b.toArray⟩).run prog W=.ok (ah (a++b)) W:=by
 rw[run_string_add_sum W _ _ (by simpa[ByteArray.size] using h),bytes_append]
theorem AL(n:Nat)(w:World)(hn:n<9223372036854775808):Calls prog 226 #[.int .i64 (n:Nat)] w fun e w'=>e=.returned (ah (dN n))∧Q w w':=by
 have hq:=Q.alloc w (.cells #[.int .u64 (n:Nat)] 170);have hv:=nt (.slice (some ⟨w.heap.size,0,none⟩) 1 1) [n] (w.alloc (.cells #[.int .u64 (n:Nat)] 170)) (Sl.lit w #[.int .u64 (n:Nat)] 170 1 1 rfl) κ (by simp;omega)
 have e:qU [n]=dN n:=by simp[qU]
 rw[e] at hv;have hw:IntKind.u64.wrap (n:Int)=(n:Int):=by simp[IntKind.wrap,IntKind.bits,IntKind.signed];omega
 have HV:=Hd hv;have HQ:=Hd hq;clear hv hq e;generalize dN n=s at *;go_enter func226,ntmps226;go_wp2_with fail;refine HV.out.mono ?_;rintro e w1 ⟨rfl,q⟩;have Q1:=Hd (HQ.out.trans q);clear q;go_wp2_with fail;go_ret;exact⟨rfl,Q1.out⟩
theorem qi(s:Bytes)(w:World)(B:Nat)(hb:Blk w B 9 #[ah s])(hs:s.length≤1000000):Calls prog 227 #[.slice (some ⟨B,0,none⟩) 1 1] w fun e w'=>e=.returned (ah (qR s))∧Q w w':=by
 have e:oG [s]=qR s:=by simp[oG]
 rw[←e];exact AK (.slice (some ⟨B,0,none⟩) 1 1) [s] w ⟨rfl,_,_,rfl,fun _=>⟨B,0,rfl,fun j u hj=>by rw[On];exact hb.cell j u (by simpa using hj)⟩⟩ κ (by simp;omega)
def vO(x:List (Nat×Nat)):Bytes:=x.flatMap fun e=>dN e.1++dN e.2
theorem QT(x:List (Nat×Nat)):(vO x).length≤20*x.length:=by
 induction x with
 | nil=>exact Ω _
 | cons e x ih =>
  have h1:=iJ e.1;have h2:=iJ e.2;unfold vO at *;rw[NO,Δ,Δ,Θ];omega
theorem p6(x:List (Nat×Nat))(k:Nat)(h:k<x.length):vO (x.take (k+1))=vO (x.take k)++(dN x[k].1++dN x[k].2):=by
 unfold vO;rw[Mb h,Sf,NO,VS,NF]
def lp(f:ax):Bytes:=qR f.name++dN (if f.sl then 1 else 0)++dN f.size++dN f.ext.length
theorem Kh(f:ax):Av f=lp f++vO f.ext:=rfl
def uK(l:List ax)(k:Nat):Bytes:=[67,68,88,73]++dN l.length++(l.take k).flatMap Av
theorem Xq(l:List ax)(k:Nat)(h:k<l.length):uK l (k+1)=uK l k++lp l[k]++vO l[k].ext:=by
 unfold uK;rw[Mb h,Sf,NO,VS,NF,Kh];simp
theorem NZ(l:List ax):uK l l.length=je l:=by unfold uK je;rw[M1]
theorem N7{l:List ax}(h:∀f∈l,f.name.length≤24∧f.ext.length≤16)(k:Nat):(uK l k).length≤14+400*l.length:=by
 have hm:∀m:List ax,(∀f∈m,f∈l)→(m.flatMap Av).length≤400*m.length:=by
  intro m;induction m with
  | nil=>intro _;exact Ω _
  | cons f m ih =>
   intro hs;have h1:=ih (fun g hg=>hs g (Mn _ hg))
   have h2:=h f (hs f (Mu ..));have h3:=FT f.name;have h4:=iJ (if f.sl then 1 else 0);have h5:=iJ f.size;have h6:=iJ f.ext.length;have h7:=QT f.ext
   rw[NO,Δ,Θ,Kh];unfold lp;simp only[Δ];omega
 have h1:=hm (l.take k) (fun f hf=>P3 hf)
 have h2:=iJ l.length;have h3:(l.take k).length≤l.length:=by rw[L4];omega
 unfold uK;simp only[Δ,Θ,Nm];omega
theorem QV(v:Value)(l:List ax)(w:World)(h:eQ w v l)(hl:l.length≤64)(hf:∀f∈l,f.name.length≤24∧f.ext.length≤16∧f.size≤2147483647∧∀e∈f.ext,e.1≤4096∧e.2≤4096):
  Calls prog 159 #[v] w fun e w'=>e=.returned (ah (je l))∧Q w w':=by
 obtain⟨a,cap,rfl,aC⟩:=h.value;have fT:=fun k=>N7 (l:=l) (fun f hx=>⟨(hf f hx).1,(hf f hx).2.1⟩) k
 have nA:=fun k hk=>Xq l k hk
 have hff:=fun (k:Nat) (hk:k<l.length)=>hf _ (LO hk)
 have nM:=BL.new w w (Q.refl w);have qO:=fun W=>AL l.length W U
 have hall:=NZ l;have h0:uK l 0=[67,68,88,73]++dN l.length:=by unfold uK;rw[R0];simp
 have wO:=hsum [67,68,88,73] (dN l.length) (by have:=iJ l.length;simp only[Θ,Nm];omega)
 rw[←h0] at wO;have aX:=Hd aC;have uN:=Hd fT;have CQ:=Hd nA;have og:=Hd hff;have vU:=Hd nM;have JI:=Hd qO;have aiC:=Hd hall;clear aC fT nA hff nM qO hall h0 h hf;generalize dN l.length=vn at *;generalize hh0:uK l 0=h0 at *;have HH0:=Hd hh0;clear hh0;go_enter func159,ntmps159;go_wp2_with fail;refine(JI.out _).mono ?_;rintro e w1 ⟨rfl,q1⟩;have hb1:=vU.out.q q1;have eO:=hb1.write h0 (by have:=uN.out 0;rw[HH0.out] at this;simp only[Nm];omega)
 have BD:=Hd eO;clear hb1 eO q1;go_wp2_with fail;refine BD.out.mono ?_;rintro e w2 ⟨rfl,bN,_⟩;rw[N0,←HH0.out] at bN;have qC:=Hd bN;clear bN;go_wp2_with fail;go_loopw [16] (fun i wr=>∃k:Nat,i=.int .i64 (k:Nat)∧k≤l.length∧Hid (BL w wr w.heap.size (uK l k))) (fun i _=>l.length-(intOf i).toNat)
 case atStart=>exact⟨0,rfl,L0 _,qC⟩
 case round =>
  obtain⟨k,rfl,hk,HB⟩:=hrel;obtain⟨wo,rfl⟩:∃wo:World,wo=wr:=⟨_,rfl⟩;by_cases ay:k<l.length
  ·have bq:(k:Int)<(l.length:Int):=U
   have lT:(0:Int)≤(k:Int):=U;obtain⟨b,off,rfl,hc⟩:=aX.out U;obtain⟨av,c0,c1,c2,c3,bX⟩:=hc k ay;obtain⟨ea,ecap,rfl,hex⟩:=jS bX;replace c0:=aj HB.out.2 c0;replace c1:=aj HB.out.2 c1;replace c2:=aj HB.out.2 c2;replace c3:=aj HB.out.2 c3;obtain⟨f1,f2,f3,f4⟩:=og.out k ay;have nA:=CQ.out k ay;have mG:=uN.out k;have fF:=uN.out (k+1);rw[nA] at fF;have eG:=Q.alloc wo (.cells #[ah l[k].name,.bool l[k].sl,.int .i64 (l[k].size:Nat),.slice ea l[k].ext.length ecap] 48);have bZ:=Blk.new wo 48 #[ah l[k].name,.bool l[k].sl,.int .i64 (l[k].size:Nat),.slice ea l[k].ext.length ecap];have dZ:=HB.out.q eG;generalize dO:wo.alloc (.cells #[ah l[k].name,.bool l[k].sl,.int .i64 (l[k].size:Nat),.slice ea l[k].ext.length ecap] 48)=wa at *;simp only[Δ] at fF;unfold lp at nA fF;simp only[Δ] at fF;have bJ:=Hd eG;have ou:=Hd bZ;have iV:=Hd dZ;have BF:=Hd hex;clear eG bZ dZ hex hc bX hk;generalize Pe:l[k]=f at *;clear Pe;obtain⟨fn,fs,fz,fx⟩:=f;simp only at c0 c1 c2 c3 f1 f2 f3 f4 fF nA dO;generalize nN:uK l k=pre at *;obtain⟨sn,kr⟩:∃sn:Nat,sn=if fs then 1 else 0:=⟨_,rfl⟩
   rw[←kr] at nA fF;obtain⟨si,hsi⟩:∃si:Int,si=(sn:Nat):=⟨_,rfl⟩;have n1:=fun W=>AL sn W (by rw[kr];split<;>decide)
   rw[←hsi] at n1;have n2:=fun W=>AL fz W U
   have n3:=fun W=>AL fx.length W U
   have n4:=fun W B hb=>qi fn W B hb U
   have mR:=p6 fx;have nS:=fun k=>QT (fx.take k)
   generalize qR fn=tn at *;generalize dN sn=v1 at *;generalize dN fz=v2 at *;generalize dN fx.length=v3 at *;have s1:=hsum tn v1 U;have s2:=hsum (tn++v1) v2 (by rw[Δ];omega)
   have s3:=hsum (tn++v1++v2) v3 (by simp only[Δ];omega)
   have ad6:(tn++v1++v2++v3).length≤100000:=by simp only[Δ];omega
   generalize tn++v1=y1 at *;generalize y1++v2=y2 at *;generalize hy3:y2++v3=y3 at *;have jB:=fun (W:World) (q:Q wa W)=>(iV.out.q q).write y3 U
   have N1:=Hd n1;have N2:=Hd n2;have N3:=Hd n3;have N4:=Hd n4;have WR:=Hd jB;have wL:=Hd mR;have HTL:=Hd nS;have Ah:=Hd (And.intro ay (And.intro nA (And.intro mG ad6)));have HF4:=Hd f4;clear n1 n2 n3 n4 jB mR nS ay nA mG fF f4 hy3 ad6;obtain⟨b0,b1,b2,b3,_⟩:=ou.out.c4;have KK:=Hd (Q.refl wa);have GG:=Hd trivial;cases fs;all_goals
    simp only[PM,ON,M2] at kr;subst kr;simp only[Int.natCast_zero,Int.natCast_one,ac6] at hsi;subst hsi;go_wp2_with fail
    (go_region_held3 (fun w'=>w'.cell? ⟨wo.heap.size,0,none⟩=some (ah fn)∧w'.cell? ⟨wo.heap.size,2,none⟩=some (.int .i64 (fz:Nat))∧w'.cell? ⟨wo.heap.size,3,none⟩=some (.slice ea fx.length ecap))
     (first|exact g0|exact⟨b0,b2,b3⟩|exact three δ b0 b2 b3)
     (first
      | (go_at_call 226;(first|with_reducible refine(N1.out _).mono ?_|with_reducible refine(N2.out _).mono ?_|with_reducible refine(N3.out _).mono ?_);rintro e w3 ⟨rfl,q3⟩;have s':Q wa w3:=Q.trans ω q3;clear KK;have KK:=Hd s';clear s' q3)
      | (go_at_call 227;with_reducible refine(N4.out _ _ (by first|exact Blk.new _ _ _|exact(Blk.new _ _ _).stays (Q.drew _)|exact(Blk.new _ _ _).stays ((Q.drew _).trans (Q.drew _))|exact(Blk.new _ _ _).stays (((Q.drew _).trans (Q.drew _)).trans (Q.drew _)))).mono ?_;rintro e w3 ⟨rfl,q3⟩;have s':Q wa w3:=Q.trans ω q3;clear KK;have KK:=Hd s';clear s' q3)
      | (go_at_call 79;with_reducible refine(WR.out _ ω).mono ?_;rintro e w5 ⟨rfl,h5,g5⟩;have bx5:=g5 _ _ _ (ou.out.stays ω) Z Z;have g0:=And.intro bx5.c4.1 (And.intro bx5.c4.2.2.1 bx5.c4.2.2.2.1);have H5:=Hd h5;clear h5 g5 bx5)))
    all_goals
     obtain⟨_,_,g3⟩:=g0;clear b0 b1 b2 b3;go_wp2_with fail;go_loopw [42] (fun i wr=>∃m:Nat,i=.int .i64 (m:Nat)∧m≤fx.length∧Hid (BL w wr w.heap.size (pre++y3++vO (fx.take m)))) (fun i _=>fx.length-(intOf i).toNat)
     case atStart=>exact⟨0,rfl,L0 _,by rw[R0,show vO []=[] from rfl,NF];exact H5⟩
     case round =>
      obtain⟨m,rfl,hm,HM⟩:=hrel;obtain⟨wi,rfl⟩:∃wi:World,wi=wr:=⟨_,rfl⟩;by_cases ny:m<fx.length
      ·have Tz:(m:Int)<(fx.length:Int):=U
       have JH:(0:Int)≤(m:Int):=U;obtain⟨eb,eoff,rfl,ZM⟩:=BF.out U;obtain⟨x0,x1⟩:=ZM m ny;replace x0:=aj HM.out.2 x0;replace x1:=aj HM.out.2 x1;have h4:=HF4.out _ (LO ny);have Cr:=Q.alloc wi (.cells #[.int .i64 (fx[m].1:Nat),.int .i64 (fx[m].2:Nat)] 87);have gI:=Blk.new wi 87 #[.int .i64 (fx[m].1:Nat),.int .i64 (fx[m].2:Nat)];have Pj:=HM.out.q Cr;have mR:=wL.out m ny;have nS:=HTL.out m;have TG:=HTL.out (m+1);rw[mR] at TG;simp only[Δ] at TG;have Ib:y3.length+pre.length≤200000:=by have h8:=Ah.out.2.2.1;have h9:=Ah.out.2.2.2;omega
       have kH:(fx.take m).length≤16:=by rw[L4];omega
       have aiD:(fx.take (m+1)).length≤16:=by rw[L4];omega
       generalize rV:wi.alloc (.cells #[.int .i64 (fx[m].1:Nat),.int .i64 (fx[m].2:Nat)] 87)=wb at *;have p1:=fun W=>AL fx[m].1 W U
       have p2:=fun W=>AL fx[m].2 W U
       obtain⟨d0,d1,_⟩:=gI.c2;clear ZM h4 Cr gI;generalize fx[m]=e at *;obtain⟨ea,ec⟩:=e;simp only at x0 x1 d0 d1 p1 p2 mR rV TG;generalize dN ea=r1 at *;generalize dN ec=r2 at *;have ss:=hsum r1 r2 U;have zu:=fun (W:World) (q:Q wb W)=>(Pj.q q).write (r1++r2) (by simp only[Δ];omega)
       rw[Mm,←mR] at zu;generalize r1++r2=r3 at *;have P1:=Hd p1;have P2:=Hd p2;have W3:=Hd zu;have HMT:=Hd ny;clear p1 p2 zu mR nS TG Ib kH aiD ny Pj hm;have K2:=Hd (Q.refl wb);go_wp2_with fail
       (go_region_held3 (fun w'=>w'.cell? ⟨wi.heap.size,0,none⟩=some (.int .i64 (ea:Nat))∧w'.cell? ⟨wi.heap.size,1,none⟩=some (.int .i64 (ec:Nat)))
        (first|exact gg0|exact⟨d0,d1⟩|exact two (by repeat (first|with_reducible exact K2.out|with_reducible exact Q.refl _|with_reducible apply Qs.dr|with_reducible apply Qs.al)) d0 d1)
        (first
         | (go_at_call 226;(first|with_reducible refine(P1.out _).mono ?_|with_reducible refine(P2.out _).mono ?_);rintro e w3 ⟨rfl,q3⟩;have s':Q wb w3:=Q.trans (by repeat (first|with_reducible exact K2.out|with_reducible apply Qs.dr|with_reducible apply Qs.al)) q3;clear K2;have K2:=Hd s';clear s' q3)
         | (go_at_call 79;with_reducible refine(W3.out _ (by repeat (first|with_reducible exact K2.out|with_reducible apply Qs.dr|with_reducible apply Qs.al))).mono ?_;rintro e w6 ⟨rfl,h6,g6⟩;have bx6:=g6 _ _ _ ((rV▸Blk.new wi 87 #[.int .i64 (ea:Nat),.int .i64 (ec:Nat)]:Blk wb wi.heap.size 87 #[.int .i64 (ea:Nat),.int .i64 (ec:Nat)]).stays (by repeat (first|with_reducible exact K2.out|with_reducible apply Qs.dr|with_reducible apply Qs.al))) Z Z;have gg0:=And.intro bx6.c2.1 bx6.c2.2.1;have H6:=Hd h6;clear h6 g6 bx6)))
       all_goals
        go_wp2_with fail;go_roundw;case rel=>exact⟨m+1,by go_num,HMT.out,H6⟩
        case measure=>have:=HMT.out;simp[intOf];omega
      ·obtain rfl:m=fx.length:=U
       have HN:=Hd (show uK l (k+1)=pre++y3++vO fx from Ah.out.2.1)
       go_wp2_with fail;go_roundw;case rel=>exact⟨k+1,by go_num,Ah.out.1,by rw[HN.out];have:=HM.out;rw[M1] at this;exact this⟩
       case measure=>have:=Ah.out.1;simp[intOf];omega
  ·obtain rfl:k=l.length:=U
   have hs:=HB.out.str;rw[aiC.out] at hs;have HS:=Hd hs;clear hs;generalize gV:je l=dl at *;have HDL:=Hd gV;clear gV;go_wp2_with fail;refine HS.out.mono ?_;rintro e w3 ⟨rfl,q3⟩;have Q3:=Hd q3;clear q3;go_wp2_with fail;go_ret;exact⟨GB HDL.out.symm,Q3.out⟩
theorem od(c:Nat):Lib.repeatL [0] c=bg c:=by
 induction c with
 | zero=>rfl
 | succ c ih=>rw[Lib.repeatL,ih];rfl
theorem zm{first n:Nat}{l:List ax}(h:cN first n l)(hn:n≤4096):∀f∈l,f.name.length≤24∧f.ext.length≤16∧f.size≤2147483647∧∀e∈f.ext,e.1≤4096∧e.2≤4096:=fun f hf=>by
 have ho:=h.ok f hf
 have qO:=Re ho.name
 exact⟨qO.2.1,ho.few,ho.size,fun e he=>by have:=ho.ext e he;omega⟩
theorem QZ{first n:Nat}{l:List ax}(h:cN first n l)(hn:n≤4096):(je l).length≤30000:=by
 have h1:=N7 (l:=l) (fun f hf=>⟨(zm h hn f hf).1,(zm h hn f hf).2.1⟩) l.length
 rw[NZ] at h1;have:=h.few;omega
theorem ID(v:Value)(l:List ax)(first n:Nat)(w:World)(h:eQ w v l)(hd:cN first n l)(hn:n≤4096):
  Calls prog 137 #[v] w fun e w'=>e=.returned (.tuple #[ah (if iA l then bR l else []),.int .i64 (if iA l then 0 else 5)])∧Q w w':=by
 have gV:=QZ hd hn;have zM:=Ke v l 0 4096 w h (hd.wide (L0 _) hn) (Ω _);have iT:=fun (W:World) (q:Q w W)=>QV v l W (h.stays q) hd.few (zm hd hn)
 have eP:iA l=decide ((je l).length+4≤3072):=by unfold iA ir;rw[Δ,aH]
 have fV:bR l=(je l++aB (fU (je l)))++bg (3072-((je l).length+4)):=by unfold bR ir;rw[Δ,aH]
 obtain⟨a,cap,rfl,_⟩:=h.value;rw[eP,fV];have nU:=fun (W:World) (B:Nat) (hb:Blk W B 9 #[ah (je l)])=>MK (.slice (some ⟨B,0,none⟩) 1 1) [je l] W ⟨rfl,_,_,rfl,fun _=>⟨B,0,rfl,fun j u hj=>by rw[On];exact hb.cell j u (by simpa using hj)⟩⟩ κ (by simp;omega)
 simp only[To,aci,NF] at nU;have xK:=fun (W:World)=>vY (fU (je l)) W (yA _)
 have O3:=hsum (je l) (aB (fU (je l))) (by rw[aH];omega)
 have kG:(aB (fU (je l))).length=4:=aH _;have iP:=fun (W:World) (c:Nat) (hc:c≤3072)=>Tryz.strings_Repeat ⟨#[0]⟩ c W U (by show 1*c≤_;omega)
 simp only[od] at iP;have bP:=fun (c:Nat) (hc:c≤3072)=>hsum (je l++aB (fU (je l))) (bg c) (by rw[Δ,fC,aH];omega)
 clear eP fV h hd;generalize fU (je l)=cr at *;generalize je l=d at *;generalize aB cr=fx at *;have bX:(d++fx).length=d.length+4:=by rw[Δ,kG]
 have Mt:=Hd zM;have Ic:=Hd iT;have xZ:=Hd nU;have Si:=Hd xK;have Hw:=Hd iP;have xG:=Hd bX;have mD:=Hd bP;clear zM iT nU xK iP kG bP;generalize hs:d++fx=s at *;clear hs;generalize kS:(if decide (d.length+4≤3072)=true then s++bg (3072-(d.length+4)) else [])=rs at *
 generalize ug:(if decide (d.length+4≤3072)=true then(0:Int) else 5)=re at *
 have xO:=Hd kS;have Ie:=Hd ug;clear kS ug;go_enter func137,ntmps137;go_wp2_with fail;refine Mt.out.mono ?_;rintro e w1 ⟨rfl,q1⟩;have Q1:=Hd q1;clear q1;go_wp2_with fail;refine(Ic.out _ Q1.out).mono ?_;rintro e w2 ⟨rfl,q2⟩;have Q2:=Hd (Q1.out.trans q2);clear q2;go_wp2_with fail;refine(xZ.out _ _ (Blk.new _ _ _)).mono ?_;rintro e w3 ⟨rfl,rfl⟩;go_wp2_with fail;refine(Si.out _).mono ?_;rintro e w4 ⟨rfl,q4⟩;have Q4:=Hd ((Q2.out.trans (Q.alloc _ _)).trans q4);clear q4;by_cases hf:d.length+4≤3072
 ·have h1:¬(s.length:Int)>3072:=by rw[bX];omega
  have e1:IntKind.i64.wrap (3072-(s.length:Int))=((3072-(d.length+4):Nat):Int):=by rw[IntWalk.i64_in _ (by rw[bX];omega),bX];omega
  have r1:=xO.out;have r2:=Ie.out;rw[MM hf,Φ rfl] at r1 r2;have R1:=Hd r1;have R2:=Hd r2;clear r1 r2;have hr:=fun W=>Hw.out W (3072-(d.length+4)) U
  have hz:=mD.out (3072-(d.length+4)) U;have HR:=Hd hr;clear hr hf bX;generalize hc:3072-(d.length+4)=c at *;have HC:=Hd hc;clear hc;go_wp2_with fail;refine(HR.out _).mono ?_;rintro e w5 ⟨rfl,q5⟩;have Q5:=Hd (Q4.out.trans q5);clear q5;go_wp2_with fail;go_returns;exact⟨by rw[←R1.out,←R2.out];rfl,Q5.out⟩
 ·have h1:(s.length:Int)>3072:=by rw[bX];omega
  have r1:=xO.out;have r2:=Ie.out;rw[Mz hf,η Z] at r1 r2;have R1:=Hd r1;have R2:=Hd r2;clear r1 r2;clear hf bX;go_wp2_with fail;go_returns;exact⟨by rw[←R1.out,←R2.out];rfl,Q4.out⟩
end
section
open Go.RowKit
theorem ce.lA{w:World}{F:Nat→Prop}{sb b:Nat}{σ:StL}{K:Nat}(h:ce w F sb b σ K)(hn:σ.n≤4096):Calls prog 39 #[au sb] w fun e w'=>e=.returned (.int .i64 (ak σ.n:Nat))∧w=w':=by
 obtain⟨FJ,FC,p,cb,tb,most,clock,ms,mb,m,ti,hg,_⟩:=h;exact Ew hg hn
theorem ce.hfree{w:World}{F:Nat→Prop}{sb b:Nat}{σ:StL}{K:Nat}(h:ce w F sb b σ K)(hn:iL σ):Calls prog 45 #[au sb] w fun e w'=>e=.returned (.int .i64 (σ.free:Nat))∧Q w w':=by
 obtain⟨FJ,FC,p,cb,tb,most,clock,ms,mb,m,ti,hg,_⟩:=h;exact rq hg hn
theorem ce.lO{w:World}{F:Nat→Prop}{sb b:Nat}{σ:StL}{K:Nat}(h:ce w F sb b σ K):Calls prog 65 #[au b] w fun e w'=>e=.returned (.bool σ.dead)∧w=w':=by
 obtain⟨FJ,FC,p,cb,tb,most,clock,ms,mb,m,ti,hg,_⟩:=h;exact JQ w FJ b σ.j.d hg.jr.dev
section
variable {w w':World} {F:Nat→Prop} {fb sb b:Nat} {φ:FsL} {K:Nat} {v:Value}
theorem wB(s:Bytes)(h:FsG w F fb sb b φ K v)(mU:φ.st.dead=false→φ.l.length≤1000000∧φ.l.Pairwise fun a b=>a.name<b.name):
  Calls prog 28 #[au fb,ah s] w fun e w'=>e=.returned (.tuple (if φ.st.dead then #[.int .i64 0,.int .i64 4] else if isF φ.l s then #[.int .i64 (aA φ.l s:Nat),.int .i64 0] else #[.int .i64 0,.int .i64 10]))∧Q w w':=by
 have hd:=h.st.lO;have hf:=fun e=>J8 v φ.l s w h.files.s (mU e).1 (mU e).2
 obtain⟨c0,c1,c2,c3,_⟩:=h.box.c4;obtain⟨a,cap,rfl,_⟩:=h.files.s.value;have HD:=Hd hd;have HF:=Hd hf;clear hd hf h mU;generalize φ.st.dead=dd at *;generalize aA φ.l s=pl at *;generalize isF φ.l s=ok at *;go_enter func28,ntmps28;go_wp2_with fail;refine HD.out.mono ?_;rintro e w1 ⟨rfl,rfl⟩;cases dd with
 | true =>
  go_wp2_with fail;go_returns;exact⟨rfl,Q.refl _⟩
 | false =>
  go_wp2_with fail;refine(HF.out trivial).mono ?_;rintro e w2 ⟨rfl,q2⟩;have Q2:=Hd q2;clear q2;cases ok;all_goals
   go_wp2_with fail;go_returns;exact⟨rfl,Q2.out⟩
end
end
end Go.Proofs.YtbkahhebmpehnaaGreatDoor
