/- Joined: Acts9 to WRef3a -/
import Derived.Test.YtonlbpljghohmaaGreatDoorCWFilL
import Derived.Deep.Cut
set_option linter.all false
set_option maxRecDepth 100000
set_option maxHeartbeats 8000000
namespace Go.Proofs.YtonlbpljghohmaaGreatDoor
open Tryz
section
open Go.RowKit
def Bools(w:World)(v:Value)(l:List Bool):Prop:=Sl w v l.length 1 (l.map .bool)
abbrev qo(vs:List Value)(l:List cJ):List Value:=(vs.zip l).flatMap fun x=>[.int .i64 x.2.op,.int .i64 x.2.at_,.int .i64 x.2.n,ah x.2.name,ah x.2.tO,x.1,.int .u8 (x.2.byte.toNat:Nat)]
def ll(kv:Value)(a:cJ):Value:=.agg #[.int .i64 a.op,.int .i64 a.at_,.int .i64 a.n,ah a.name,ah a.tO,kv,.int .u8 (a.byte.toNat:Nat)]
def Acts9(w:World)(v:Value)(l:List cJ):Prop:=∃vs:List Value,vs.length=l.length∧Sl w v l.length 7 (qo vs l)∧∀(i:Nat) (a:Value) (b:cJ),vs[i]?=some a→l[i]?=some b→Bools w a b.keep
def ActA(w:World)(v:Value)(a:cJ):Prop:=∃kv,v=ll kv a∧Bools w kv a.keep
structure cJ.Wf (a:cJ):Prop where
 op : -9223372036854775808≤a.op∧a.op≤9223372036854775807
 at_ : -9223372036854775808≤a.at_∧a.at_≤9223372036854775807
 n : -9223372036854775808≤a.n∧a.n≤9223372036854775807
 keep:a.keep.length≤9223372036854775807
 name:a.name.length≤9223372036854775807
 tO:a.tO.length≤9223372036854775807
def Acts9Wf(l:List cJ):Prop:=l.length≤9223372036854775807∧∀a∈l,a.Wf
theorem Bools.stays{w w':World}{v:Value}{l:List Bool}(h:Bools w v l)(q:Q w w'):Bools w' v l:=Sl.stays h q
theorem Acts9.stays{w w':World}{v:Value}{l:List cJ}(h:Acts9 w v l)(q:Q w w'):Acts9 w' v l:=by
 obtain⟨vs,h1,h2,h3⟩:=h;exact⟨vs,h1,h2.stays q,fun i a b ha hb=>(h3 i a b ha hb).stays q⟩
theorem yn(vs:List Value)(l:List cJ)(hl:vs.length=l.length)(k:Nat)(h:k<l.length):(qo vs l)[k*7]?=some (.int .i64 l[k].op)∧(qo vs l)[k*7+1]?=some (.int .i64 l[k].at_)∧(qo vs l)[k*7+2]?=some (.int .i64 l[k].n)∧(qo vs l)[k*7+3]?=some (ah l[k].name)∧(qo vs l)[k*7+4]?=some (ah l[k].tO)∧(qo vs l)[k*7+5]?=some (vs[k]' U)∧(qo vs l)[k*7+6]?=some (.int .u8 (l[k].byte.toNat:Nat)):=by
 induction l generalizing vs k with
 | nil=>simp at h
 | cons d l ih =>
  cases vs with
  | nil=>simp at hl
  | cons v vs =>
   have e:qo (v::vs) (d::l)=.int .i64 d.op::.int .i64 d.at_::.int .i64 d.n::ah d.name::ah d.tO::v::.int .u8 (d.byte.toNat:Nat)::qo vs l:=by simp[qo]
   cases k with
   | zero=>rw[e];exact⟨rfl,rfl,rfl,rfl,rfl,rfl,rfl⟩
   | succ k =>
    have:=ih vs (by simpa using hl) k (by simpa using h)
    rw[e,show(k+1)*7=k*7+1+1+1+1+1+1+1 by omega]
    exact this
theorem Acts9.value{w:World}{v:Value}{l:List cJ}(h:Acts9 w v l):∃a cap,v=.slice a l.length cap∧(0<l.length→∃b off,a=some ⟨b,off,none⟩ ∧
  ∀k (hk:k<l.length),∃kv,w.cell? ⟨b,off+k*7,none⟩=some (.int .i64 l[k].op)∧w.cell? ⟨b,off+k*7+1,none⟩=some (.int .i64 l[k].at_)∧w.cell? ⟨b,off+k*7+2,none⟩=some (.int .i64 l[k].n)∧w.cell? ⟨b,off+k*7+3,none⟩=some (ah l[k].name)∧w.cell? ⟨b,off+k*7+4,none⟩=some (ah l[k].tO)∧w.cell? ⟨b,off+k*7+5,none⟩=some kv∧w.cell? ⟨b,off+k*7+6,none⟩=some (.int .u8 (l[k].byte.toNat:Nat))∧Bools w kv l[k].keep):=by
 obtain⟨vs,hl,⟨_,a,cap,h2,h3⟩,h4⟩:=h;refine⟨a,cap,h2,fun hn=>?_⟩
 obtain⟨b,off,h5,h6⟩:=h3 hn;refine⟨b,off,h5,fun k hk=>?_⟩
 obtain⟨e0,e1,e2,e3,e4,e5,e6⟩:=yn vs l hl k hk;exact⟨_,h6 _ _ e0,h6 _ _ e1,h6 _ _ e2,h6 _ _ e3,h6 _ _ e4,h6 _ _ e5,h6 _ _ e6,h4 k _ _ (Mp U) (Mp hk)⟩
theorem Bools.len{w:World}{v:Value}{l:List Bool}(h:Bools w v l):∃a cap,v=.slice a l.length cap:=by
 obtain⟨_,a,cap,e,_⟩:=h;exact⟨a,cap,e⟩
def cJ.small(a:cJ):Bool:=decide (a.keep.length≤200)&&(decide (a.name.length≤100)&&decide (a.tO.length≤100))
def wD(l:List cJ):Bool:=decide (l.length≤60)&&l.all cJ.small
theorem XL(v:Value)(l:List cJ)(w:World)(hv:Acts9 w v l)(hl:Acts9Wf l):
  Calls prog 10 #[v] w fun e w'=>e=.returned (.bool (wD l))∧w=w':=by
 obtain⟨a,cap,rfl,aP⟩:=hv.value;obtain⟨hn,hl⟩:=hl;have HC:=Hd aP;have HL:=Hd hl;clear hv aP hl;by_cases h80:l.length≤60
 ·have vk:wD l=l.all cJ.small:=by unfold wD;rw[NO h80];rfl
  have Pq:=Hd vk;clear vk;have aiV:¬((60:Int)<(l.length:Int)):=U;go_enter func10,ntmps10;go_wp2_with fail;go_loop [3] (fun x=>∃k:Nat,x=.int .i64 (k:Nat)∧k≤l.length∧Hid (l.all cJ.small=(l.drop k).all cJ.small)) (fun x=>l.length-(intOf x).toNat)
  case atStart=>exact⟨0,rfl,U,rfl⟩
  case round =>
   obtain⟨k,rfl,hk,HK⟩:=hrel;by_cases ay:k<l.length
   ·obtain⟨b,off,rfl,hc⟩:=HC.out U
    obtain⟨kv,_,_,_,c3,c4,c5,_,hb⟩:=hc k ay;have TU:=HL.out _ (MA ay);have eO:=TU.keep;have gD:=TU.name;have zu:=TU.tO;have hall:l.all cJ.small=(l[k].small&&(l.drop (k+1)).all cJ.small):=by rw[HK.out,Re ay,List.all_cons]
    have qL:(0:Int)≤(k:Int):=U;have qG:(k:Int)<(l.length:Int):=U;generalize l[k]=act at *;obtain⟨ka,kc,rfl⟩:=hb.len;clear hc hb TU;have CO:act.small=true↔act.keep.length≤200∧act.name.length≤100∧act.tO.length≤100:=by unfold cJ.small;simp
    by_cases h3:act.keep.length≤200∧act.name.length≤100∧act.tO.length≤100
    ·have ig:l.all cJ.small=(l.drop (k+1)).all cJ.small:=by rw[hall,CO.2 h3];rfl
     have Bo:=Hd ig;clear ig hall CO;have h2i:¬((200:Int)<(act.keep.length:Int)):=U;have h3i:¬((100:Int)<(act.name.length:Int)):=U;have h4i:¬((100:Int)<(act.tO.length:Int)):=U;go_wp2_with fail;go_round;case rel=>exact⟨k+1,by go_num,U,Bo⟩
     case measure=>simp[intOf];omega
    ·have ig:l.all cJ.small=false:=by
      rw[hall];cases hx:act.small with
      | false=>rfl
      | true=>exact absurd (CO.1 hx) h3
     have Bo:=Hd ig;clear ig hall CO;by_cases amT:act.keep.length≤200
     ·have h2i:¬((200:Int)<(act.keep.length:Int)):=U
      by_cases amU:act.name.length≤100
      ·have h3i:¬((100:Int)<(act.name.length:Int)):=U
       have h4i:(100:Int)<(act.tO.length:Int):=U;go_wp2_with fail;go_ret;exact⟨by rw[Pq.out,Bo.out];rfl,rfl⟩
      ·have h3i:(100:Int)<(act.name.length:Int):=U
       go_wp2_with fail;go_ret;exact⟨by rw[Pq.out,Bo.out];rfl,rfl⟩
     ·have h2i:(200:Int)<(act.keep.length:Int):=U
      go_wp2_with fail;go_ret;exact⟨by rw[Pq.out,Bo.out];rfl,rfl⟩
   ·have hje:k=l.length:=U
    subst hje;have ig:l.all cJ.small=true:=by rw[HK.out,Wk];rfl
    have Bo:=Hd ig;clear ig;go_wp2_with fail;go_ret;exact⟨by rw[Pq.out,Bo.out];rfl,rfl⟩
 ·have vk:wD l=false:=by unfold wD;rw[Nx h80];rfl
  have Pq:=Hd vk;clear vk;have aiV:(60:Int)<(l.length:Int):=U;go_enter func10,ntmps10;go_wp2_with fail;go_ret;exact⟨by rw[Pq.out];rfl,rfl⟩
theorem sf{l:List cJ}(h:wD l=true):l.length≤60∧∀a∈l,a.keep.length≤200∧a.name.length≤100∧a.tO.length≤100:=by
 unfold wD at h;rw[abz,Up,abE] at h;exact⟨h.1,fun a ha=>by have:=h.2 a ha;unfold cJ.small at this;simpa using this⟩
theorem xy(c:Int)(n:Nat)(h:c<0)(hn:0<n):((lC c n:Nat):Int)=(-(c+1))%(n:Int):=by
 unfold lC;rw[Φ h];rw[aah,aak U]
theorem ui(c:Int)(n:Nat)(h:¬c<0)(hn:0<n):((lC c n:Nat):Int)=c%(n:Int):=by
 unfold lC;rw[η h];rw[aah,aak U]
theorem Ch(c:Int)(n:Nat)(w:World)(c0 : -9223372036854775808≤c)(c1:c≤9223372036854775807)(hn:0<n)(hm:n≤1000000):
  Calls prog 13 #[.int .i64 c,.int .i64 (n:Nat)] w fun e w'=>e=.returned (.int .i64 (lC c n:Nat))∧w=w':=by
 have ay:=Ev c n hn;have hz:¬(n:Int)=0:=U;have aW:((n:Int)==0)=false:=by simp;omega
 by_cases h:c<0
 ·have e:=xy c n h hn
  have r1:IntKind.i64.wrap (c+1)=c+1:=IntWalk.i64_in _ U;have r2:IntKind.i64.wrap (-(c+1)) = -(c+1):=IntWalk.i64_in _ U;have hb:(-(c+1)).tmod (n:Int)=(-(c+1))%(n:Int):=Zs U;have r3:IntKind.i64.wrap ((-(c+1))%(n:Int))=(-(c+1))%(n:Int):=IntWalk.i64_in _ (by rw[←e];omega)
  have r4:IntKind.i64.wrap ((-(c+1)).tmod (n:Int))=(-(c+1))%(n:Int):=by rw[hb];exact r3
  rw[e];clear e;go_enter func13,ntmps13;go_wp2_with fail;go_ret;exact⟨by first|rfl|simp[r1,r2,r3,r4,hb],rfl⟩
 ·have e:=ui c n h hn
  have hb:c.tmod (n:Int)=c%(n:Int):=Zs U;have r3:IntKind.i64.wrap (c%(n:Int))=c%(n:Int):=IntWalk.i64_in _ (by rw[←e];omega)
  have r4:IntKind.i64.wrap (c.tmod (n:Int))=c%(n:Int):=by rw[hb];exact r3
  rw[e];clear e;go_enter func13,ntmps13;go_wp2_with fail;go_ret;exact⟨by first|rfl|simp[r3,r4,hb],rfl⟩
def yQ(c:UInt8)(n k:Nat):Bytes:=List.replicate k c++List.replicate (n-k) 0
theorem Gz(c:UInt8)(n k:Nat)(h:k≤n):(yQ c n k).length=n:=by simp[yQ];omega
theorem XM(c:UInt8)(n k:Nat)(h:k<n):(yQ c n k).set k c=yQ c n (k+1):=by
 unfold yQ;obtain⟨m,hm⟩:∃m,n-k=m+1:=⟨n-k-1,U⟩;rw[hm,aeb,show n-(k+1)=m by omega,ad3,MY]
 rw[abw _ _ κ];simp
theorem tP(c:UInt8)(n:Nat):yQ c n n=List.replicate n c:=by unfold yQ;simp
theorem Ci(c:UInt8)(n:Nat)(w:World)(hn:n≤1000000):Calls prog 12 #[.int .u8 (c.toNat:Nat),.int .i64 (n:Nat)] w fun e w'=>e=.returned (ah (List.replicate n c))∧Q w w':=by
 obtain⟨i,hi,bY,bB,aW⟩:=info_parts ze;have km:=run_make (P:=prog) w 84 5 _ _ underlying84 hi bY .i64 .i64 (n:Int) (n:Int) U (aac _) (by rw[aW];omega) U
 rw[bB,abk,show(Value.int IntKind.u8 0).cells=#[.int .u8 0] from rfl] at km
 have Ec:ci (w.alloc (.cells (madeCells #[.int .u8 0] (n:Int).toNat) 5)) w.heap.size (yQ c n 0):=by
  have:=ci.zeros w (n:Int).toNat 5;rw[PM] at this ⊢;unfold yQ;rw[List.replicate_zero,Pr];exact this
 have hq:=Q.alloc w (.cells (madeCells #[.int .u8 0] (n:Int).toNat) 5);rw[PM] at km Ec hq;generalize w.alloc (.cells (madeCells #[.int .u8 0] n) 5)=w2 at *;have HQ:=Hd hq;have HR:=Hd Ec;clear hq bY bB aW Ec;go_enter func12,ntmps12;go_wp2_with fail;go_loopw [6] (fun x wr=>∃k:Nat,x=.int .i64 (k:Nat)∧k≤n∧Hid (ci wr w.heap.size (yQ c n k))∧Hid (Q w wr)) (fun x _=>n-(intOf x).toNat)
 case atStart=>exact⟨0,rfl,U,HR,HQ⟩
 case round =>
  obtain⟨k,rfl,hk,HR,HQ⟩:=hrel;by_cases ay:k<n
  ·have bq:(k:Int)<(n:Int):=U
   have hf:=HR.out.frozen k (by rw[Gz c n k hk];exact ay)
   have hc:=HR.out.cell k (by rw[Gz c n k hk];exact ay)
   have aC:=HR.out.set k (c.toNat:Nat) c rfl;rw[XM c n k ay] at aC;have eG:=Qs.st HQ.out ⟨w.heap.size,k,none⟩ (.int .u8 (c.toNat:Nat)) (Ω _);have aX:=Hd aC;have bJ:=Hd eG;clear aC eG;go_wp2_with fail;go_roundw;case rel=>exact⟨k+1,by go_num,U,aX,bJ⟩
   case measure=>simp[intOf];omega
  ·have bq:¬(k:Int)<(n:Int):=U
   obtain rfl:k=n:=U;have VD:=HR.out.back (P:=prog) 84 9 5 k underlying84 underlying5 underlying9;rw[Gz c k k hk,tP] at VD;go_wp2_with fail;go_ret;exact⟨rfl,HQ.out⟩
theorem xe(ka:Option Addr)(kn kc:Nat)(a:cJ)(w:World)(ha:a.Wf):
  Calls prog 23 #[ll (.slice ka kn kc) a] w fun e w'=>e=.returned (ah a.data)∧Q w w':=by
 have hp:=fun (W:World)=>Ch a.n 6003 W ha.n.1 ha.n.2 Z Z
 have ay:=Ev a.n 6003 Z;have Ed:=fun (W:World)=>Ci a.byte (lC a.n 6003) W U
 obtain⟨wa,dO⟩:∃wa,wa=w.alloc (.cells #[.int .i64 a.op,.int .i64 a.at_,.int .i64 a.n,ah a.name,ah a.tO,.slice ka kn kc,.int .u8 (a.byte.toNat:Nat)] 40):=⟨_,rfl⟩;have hq:Q w wa:=by rw[dO];exact Q.alloc _ _
 have bZ:Blk wa w.heap.size 40 #[.int .i64 a.op,.int .i64 a.at_,.int .i64 a.n,ah a.name,ah a.tO,.slice ka kn kc,.int .u8 (a.byte.toNat:Nat)]:=by rw[dO];exact Blk.new w _ _
 have d2:wa.cell? ⟨w.heap.size,2,none⟩=some (.int .i64 a.n):=bZ.cell 2 _ rfl;have d6:wa.cell? ⟨w.heap.size,6,none⟩=some (.int .u8 (a.byte.toNat:Nat)):=bZ.cell 6 _ rfl;have he:a.data=List.replicate (lC a.n 6003) a.byte:=rfl;rw[he];have HP:=Hd hp;have Wj:=Hd Ed;have HQ:=Hd hq;clear hp Ed hq ha bZ he;have e63:((6003:Nat):Int)=6003:=rfl;rw[e63] at HP;unfold ll;generalize lC a.n 6003=pz at *;go_enter func23,ntmps23;go_wp2_with fail;rw[←dO];clear dO;have KK:=Hd (Q.refl wa)
 (go_region_held3 (fun w'=>w'.cell? ⟨w.heap.size,2,none⟩=some (.int .i64 a.n)∧w'.cell? ⟨w.heap.size,6,none⟩=some (.int .u8 (a.byte.toNat:Nat)))
  (first|exact⟨d2,d6⟩|exact two (by repeat (first|with_reducible exact KK.out|with_reducible exact Q.refl _|with_reducible apply Qs.dr)) d2 d6)
  (first
   | (go_at_call 13;refine(HP.out _).mono ?_;rintro e w4 ⟨rfl,rfl⟩)
   | (go_at_call 12;refine(Wj.out _).mono ?_;rintro e w5 ⟨rfl,s'⟩;clear KK;have KK:=Hd ((Q.drew wa).trans s'))))
 all_goals
  go_wp2_with fail;go_ret;exact⟨rfl,HQ.out.trans KK.out⟩
end
section
open Go.RowKit
set_option maxRecDepth 20000 in
theorem ru(v:Nat)(w:World)(hv:v<4294967296):
  Calls prog 145 #[.int .u32 v] w fun e w'=>e=.returned (ah (aB v))∧Q w w':=by
 have k4:=Nu w (v%256) (v / 256%256) (v / 65536%256) (v / 16777216) U U U U (aB v) (by unfold aB;rw[show v / 16777216%256=v / 16777216 by omega])
 simp only[aah,Int.natCast_ediv,ac2] at k4
 generalize aB v=r at *
 go_enter func145,ntmps145
 go_wp2_with fail
 go_ret
 exact⟨rfl,Q.alloc _ _⟩
theorem sE(s:Bytes)(j:Nat)(h:j<s.length):mJ (s.take (j+1))=lM 8 (mJ (s.take j) ^^^ s[j].toNat):=P5 [] s j h
set_option maxRecDepth 20000 in
theorem EJ(s:Bytes)(w:World)(hs:s.length≤9223372036854775807):
  Calls prog 146 #[ah s] w fun e w'=>e=.returned (.int .u32 (fU s:Nat))∧w=w':=by
 go_enter func146,ntmps146
 go_wp2_with fail
 go_loop [3,4,5] (fun c i _=>∃k:Nat,k≤s.length∧i=.int .i64 k∧c=.int .u32 (mJ (s.take k):Nat)) (fun _ i _=>s.length-(intOf i).toNat)
 case atStart=>exact⟨0,U,rfl,rfl⟩
 case round =>
  obtain⟨k,hk,rfl,rfl⟩:=hrel
  have nR:=yV (s.take k)
  by_cases ay:k<s.length
  ·have aC:=sE s k ay
   have hx:(s[k]).toNat<256:=V2 _
   generalize hy:mJ (s.take k)=c at *
   have HY:=Hd hy;have aX:=Hd aC;clear hy aC
   go_wp2_with fail
   have Ac:c ^^^ (s[k]).toNat<4294967296:=aam (n:=32) nR U
   go_loop [5,3] (fun i d=>∃m:Nat,m≤8∧i=.int .i64 m∧d=.int .u32 (lM m (c ^^^ (s[k]).toNat):Nat)) (fun i _=>8-(intOf i).toNat)
   case atStart=>exact⟨0,U,rfl,int_eq (by
    rw[show((({ data:=List.toArray s }:ByteArray)[k]).toNat:Int)%4294967296=((s[k]).toNat:Int) from Int.emod_eq_of_lt U (by show((s[k]).toNat:Int)<_;omega)]
    exact u32_xor_nat c (s[k]).toNat nR U)⟩
   case round =>
    obtain⟨m,hm,rfl,rfl⟩:=hrel
    have nS:=Da m _ Ac
    by_cases iU:m<8
    ·have z8:lM (m+1) (c ^^^ (s[k]).toNat)=p9 (lM m (c ^^^ (s[k]).toNat)):=rfl
     generalize lM m (c ^^^ (s[k]).toNat)=d at *
     have VB:=Hd z8;clear z8
     by_cases YS:d%2=1
     ·have ht:p9 d=(d / 2) ^^^ 3988292384:=by unfold p9;rw[Φ YS]
      have mh:bits .xor .u32 (((d / 2:Nat):Int)) ((3988292384:Nat):Int)=((d / 2 ^^^ 3988292384:Nat):Int):=u32_xor_nat (d / 2) 3988292384 U Z
      have hoi:((d:Int)%2==1)=true:=by simp;omega
      have HT:=Hd ht;have HX2:=Hd mh
      clear ht mh YS
      go_wp2_with fail
      go_round
      case rel=>exact⟨m+1,U,by go_num,int_eq (by rw[VB.out,HT.out];exact HX2.out)⟩
      case measure=>simp[intOf];omega
     ·have ht:p9 d=d / 2:=by unfold p9;rw[η YS]
      have hoi:((d:Int)%2==1)=false:=by simp;omega
      have HT:=Hd ht
      clear ht YS
      go_wp2_with fail
      go_round
      case rel=>exact⟨m+1,U,by go_num,int_eq (by rw[VB.out,HT.out];rfl)⟩
      case measure=>simp[intOf];omega
    ·have Ze:m=8:=U
     subst Ze
     go_wp2_with fail
     go_round
     case rel=>exact⟨k+1,U,by go_num,by rw[aX.out]⟩
     case measure=>simp[intOf];omega
  ·have iN:k=s.length:=U
   have hx:=yV s
   subst iN
   rw[N5]
   generalize hc:mJ s=c at *
   have xZ:=Hd hc;clear hc
   go_wp2_with fail
   go_ret
   refine⟨od ?_,rfl⟩
   show bits BinOp.xor IntKind.u32 (c:Int) ((4294967295:Nat):Int)=_
   rw[u32_xor_nat _ _ hx Z]
   unfold fU
   rw[xZ.out]
end
section
open Go.RowKit
theorem XP{w:World}{base:Nat}{v:Value}{l:Bytes}(h:w.ownsRow base 5 1 v l.length (iD l)):
  (convert 84 9 v).run prog w=.ok (ah l) w:=by
 obtain⟨a,cap,rfl,hg⟩:=aY h;by_cases hl:l=[]
 ·subst hl
  rcases h.2 with ⟨hv,_⟩|⟨g,c,cur,hv,_⟩
  ·cases hv
   show(convert 84 9 (.slice none 0 0)).run prog w=_;rw[run_convert_bytes_string w 84 9 5 none 0 0 underlying84 underlying5 underlying9];rfl
  ·cases hv
   exact run_convert_bytes_back (P:=prog) w 84 9 5 ⟨g,0,none⟩ cap [] underlying84 underlying5 underlying9 (fun j hj=>by simp at hj)
 ·obtain⟨g,rfl⟩:=hg (Wc.2 hl)
  refine run_convert_bytes_back (P:=prog) w 84 9 5 ⟨g,0,none⟩ cap l underlying84 underlying5 underlying9 (fun j hj=>?_)
  rw[oD,PF,h.cellAt j U];simp[iD,Lib.byteCells,hj]
theorem It:(prog.info? 5).map (fun i=>(i.zero,i.size,i.bytes))=some (some (.int .u8 0),1,1):=by kernel_rfl
theorem Jk(l:Bytes)(x:Nat)(hx:x<256):iD l++(#[Value.int .u8 (x:Int)]:Array Value).toList=iD (l++[UInt8.ofNat x]):=by
 rw[vG];simp[iD,Lib.byteCells];omega
theorem Rj(v:Nat)(w:World)(hv:v<18446744073709551616):
  Calls prog 277 #[.int .u64 v] w fun e w'=>e=.returned (ah (dN v))∧Q w w':=by
 obtain⟨i0,hi,bY,bB,aW⟩:=info_parts It;go_enter func277,ntmps277;go_wp2_with fail;go_loopw [3,0] (fun bv x wr=>∃(y m:Nat) (l:Bytes),x=.int .u64 y∧y<18446744073709551616∧m≤10∧l.length+m≤10∧Hid (0<m∧y<128 ^ m)∧Hid (l++jC m y=dN v)∧Hid (wr.ownsRow w.heap.size 5 1 bv l.length (iD l))∧Hid (Q w wr)) (fun _ x _=>(intOf x).toNat)
 case atStart=>exact⟨v,10,[],rfl,hv,U,κ,⟨U,nf v hv⟩,rfl,World.ownsRow_nil _ _ _ _,Q.refl _⟩
 case round =>
  obtain⟨y,m,l,rfl,hy,hm,VZ,HM,HL,HO,HQ⟩:=hrel;obtain⟨wo,rfl⟩:∃wo:World,wo=wr:=⟨_,rfl⟩;obtain⟨JH,ZK⟩:=HM.out;have bP:w.heap.size≤wo.heap.size:=HQ.out.size;have ho:=HO.out;by_cases ES:128≤y
  ·obtain⟨kF,Bz,Ib⟩:=PZ m y ES ZK
   have aC:l++jC m y=(l++[UInt8.ofNat (y%128+128)])++jC (m-1) (y / 128):=by rw[Bz];simp
   have aX:=Hd aC;have HYL:=Hd Ib;clear aC Bz Ib ZK HO;go_wp2_with (at_builtin;go_must (refine bG wo ρ _ _ 84 ρ w.heap.size 5 _ i0 (.int .u8 0) 1 1 underlying84 hi bY bB aW rfl Z Z _ _ _ ρ ho #[.int .u8 (128+(y:Int)%128)] (by simp[Act.eval]) rfl ?c1 ?c2 bP ?_))
   case c1=>simp[Value.oneCell']
   case c2=>omega
   intro g6 cap6 w6 E9 Pp aaW aiW aaC;have q6:Q w w6:=bD HQ.out ho Pp (Ω _) U;rw[show(128+(y:Int)%128)=((y%128+128:Nat):Int) by omega,Jk _ _ U,show l.length+1=(l++[UInt8.ofNat (y%128+128)]).length by simp] at E9
   have HO6:=Hd E9;have lG:=Hd q6;clear E9 q6 Pp aaW ho;rw[show l.length+1=(l++[UInt8.ofNat (y%128+128)]).length by simp]
   generalize fF:l++[UInt8.ofNat (y%128+128)]=l2 at *;have amV:l2.length=l.length+1:=by rw[←fF];simp
   clear fF;go_wp2_with fail;go_roundw;case rel=>exact⟨y / 128,m-1,l2,by go_num,U,U,U,⟨U,HYL.out⟩,by show _=_;rw[←aX.out];exact HL.out,HO6,lG⟩
   case measure=>simp[intOf];omega
  ·have Br:=KG m y JH U
   have hend:l++[UInt8.ofNat y]=dN v:=by rw[←HL.out,Br]
   have HE:=Hd hend;clear hend Br ZK HO;go_wp2_with (at_builtin;go_must (refine bG wo ρ _ _ 84 ρ w.heap.size 5 _ i0 (.int .u8 0) 1 1 underlying84 hi bY bB aW rfl Z Z _ _ _ ρ ho #[.int .u8 (y:Int)] (by simp[Act.eval]) rfl ?c1 ?c2 bP ?_))
   case c1=>simp[Value.oneCell']
   case c2=>omega
   intro g6 cap6 w6 E9 Pp aaW aiW aaC;have q6:Q w w6:=bD HQ.out ho Pp (Ω _) U;rw[Jk _ _ U,HE.out,show l.length+1=(dN v).length by rw[←HE.out];simp] at E9
   have hc:=XP E9;have lG:=Hd q6;rw[show l.length+1=(dN v).length by rw[←HE.out];simp]
   clear E9 q6 Pp aaW ho;go_wp2_with fail;go_ret;exact⟨rfl,lG.out⟩
theorem An(s:Bytes)(k:Nat)(hk:k<s.length)(hk9:k≤9)(hj:∀j,j<k→128≤bA s j)(hb:bA s k<128)(x:Nat)(hx:x=(gZ s k+bA s k%128*128 ^ k%18446744073709551616)%18446744073709551616):
  (dN x=s.take (k+1)→fY s x (s.drop (k+1)))∧(dN x≠s.take (k+1)→∀v r,¬fY s v r):=by
 have Ac:x<18446744073709551616:=U;refine⟨fun he=>⟨Ac,by rw[he,PP]⟩,fun aU v r hv=>aU ?_⟩
 obtain⟨j,h1,h2,h3⟩:=zN s v r hv;have OC:=BV s j k h2 hb hj;subst OC;have hv2:=Fb s j h2 h1 h3;have h4:=hv2.1;have ER:gZ s (j+1)=gZ s j+bA s j%128*128 ^ j:=rfl;have h5:bA s j%128*128 ^ j<18446744073709551616:=U;have sH:x=gZ s (j+1):=by
  rw[hx,PQ h5,ER];exact PQ U
 have h6:=hv2.2;rw[←sH] at h6;have hl:(dN x).length=j+1:=by
  have h7:=RE List.length h6;rw[Δ,MM] at h7;omega
 have h8:(dN x++s.drop (j+1)).take (j+1)=dN x:=TO hl;rw[←h6] at h8;exact h8.symm
theorem wrap_u64(n:Nat):IntKind.u64.wrap (n:Int)=((n%18446744073709551616:Nat):Int):=by
 simp only[IntKind.wrap,IntKind.bits,IntKind.signed];simp
theorem XQ(s:Bytes)(w:World)(hs:s.length≤9000000000000000000):
  Calls prog 214 #[ah s] w fun e w'=>((∃v r,fY s v r∧e=.returned (.tuple #[.int .u64 (v:Nat),ah r,.bool true]))∨((∀v r,¬fY s v r)∧e=.returned (.tuple #[.int .u64 0,ah [],.bool false])))∧Q w w':=by
 have iH:prog.follows .mixedOrders=true:=by kernel_rfl
 go_enter func214,ntmps214;go_wp2_with fail;go_loopw [5,6,7] (fun xv pv i wr=>∃k x p:Nat,k≤10∧k≤s.length∧i=.int .i64 (k:Nat)∧xv=.int .u64 (x:Nat)∧pv=.int .u64 (p:Nat)∧x<18446744073709551616∧p<18446744073709551616∧Hid (k≤9→x=gZ s k∧p=128 ^ k)∧Hid (∀j,j<k→128≤bA s j)∧Hid (Q w wr)) (fun _ _ i _=>10-(intOf i).toNat)
 case atStart=>exact⟨0,0,1,U,U,rfl,rfl,rfl,U,U,fun _=>⟨rfl,rfl⟩,fun j hj=>U,Q.refl _⟩
 case round =>
  obtain⟨k,x,p,hk,zB,rfl,rfl,rfl,Ac,bW,HX,HJ,HQ⟩:=hrel;obtain⟨wo,rfl⟩:∃wo:World,wo=wr:=⟨_,rfl⟩;by_cases ay:k<s.length∧k<10
  ·obtain⟨nR,nX⟩:=ay
   obtain⟨sH,zA⟩:=HX.out U;have dZ:=jW s k;have eu:((({ data:=s.toArray }:ByteArray)[k]'nR).toNat:Int)=(bA s k:Nat):=nd s k nR;obtain⟨m1,kF⟩:∃m1,m1=bA s k%128*p%18446744073709551616:=⟨_,rfl⟩;obtain⟨m2,lD⟩:∃m2,m2=(x+m1)%18446744073709551616:=⟨_,rfl⟩;obtain⟨p2,iq⟩:∃p2,p2=p*128%18446744073709551616:=⟨_,rfl⟩;have eO:IntKind.u64.wrap ((((({ data:=s.toArray }:ByteArray)[k]'nR).toNat:Int)%128)*(p:Int))=(m1:Int):=by
    rw[eu,kF,←wrap_u64];congr 1
   have gD:IntKind.u64.wrap ((x:Int)+(m1:Int))=(m2:Int):=by
    rw[lD,←wrap_u64];congr 1
   have zu:IntKind.u64.wrap ((p:Int)*128)=(p2:Int):=by
    rw[iq,←wrap_u64];congr 1
   have aeR:m2<18446744073709551616:=U;have aiX:p2<18446744073709551616:=U;have pU:=An s k nR U HJ.out;have bq:(k:Int)<10:=U;have Dw:(k:Int)<(s.length:Int):=U;have EP:(0:Int)≤(k:Int):=U;by_cases ES:128≤bA s k
   ·have hb1:¬((({ data:=s.toArray }:ByteArray)[k]'nR).toNat:Int)<128:=by rw[eu];omega
    have bN:(128:Int)≤((({ data:=s.toArray }:ByteArray)[k]'nR).toNat:Int):=by rw[eu];omega
    have gU:k+1≤9→m2=gZ s (k+1)∧p2=128 ^ (k+1):=fun h9=>by
     have h1:=DC s (k+1);have h2:128 ^ (k+1)≤128 ^ 9:=ZS U h9;have h3:(128:Nat) ^ 9=9223372036854775808:=pL;have h4:gZ s (k+1)=gZ s k+bA s k%128*128 ^ k:=rfl;have h5:(128:Nat) ^ (k+1)=128 ^ k*128:=aae ..;constructor
     ·rw[lD,kF,sH,zA,PQ (by omega:bA s k%128*128 ^ k<18446744073709551616),←h4]
      exact PQ U
     ·rw[iq,zA,←h5];exact PQ U
    have qF:∀j,j<k+1→128≤bA s j:=fun j hj=>by
     by_cases he:j=k
     ·subst he;exact ES
     ·exact HJ.out j U
    have qB:=Hd gU;have rM:=Hd qF;clear gU qF kF lD iq sH zA eu pU;go_wp2_with fail;exact⟨⟨k+1,m2,p2,U,U,by go_num,rfl,rfl,aeR,aiX,qB,rM,HQ⟩,by simp[intOf];omega⟩
   ·have hb1:((({ data:=s.toArray }:ByteArray)[k]'nR).toNat:Int)<128:=by rw[eu];omega
    have bN:¬(128:Int)≤((({ data:=s.toArray }:ByteArray)[k]'nR).toNat:Int):=by rw[eu];omega
    have aiY:=pU U m2 (by rw[lD,kF,sH,zA])
    have cv:=fun W=>Rj m2 W aeR
    have kH:=uD s (k+1);have nQ:=fI s (k+1);have hkw:IntKind.i64.wrap ((k+1:Nat):Int)=((k+1:Nat):Int):=IntWalk.i64_in _ U;have Bv:((k+1:Nat):Int)≤(s.length:Int):=U;have kW:(0:Int)≤((k+1:Nat):Int):=U;have rH:(k:Int)+1=((k+1:Nat):Int):=U;obtain⟨hy,bI⟩:=aiY;generalize VP:dN m2=ve at *;generalize s.drop (k+1)=sd at *;generalize s.take (k+1)=st at *;generalize k+1=k1 at *;have CV:=Hd cv;have HY:=Hd hy;have dY:=Hd bI;clear cv hy bI pU kF lD iq sH zA eu VP HX HJ;have KK:=HQ;by_cases jT:ve=st
    ·have ZH:=HY.out jT
     have HYV:=Hd ZH;clear ZH;subst jT;go_wp2_with fail;go_region_held3 (fun w'=>True) (exact trivial)
      (first
       | (go_at_call 277;((with_reducible refine(CV.out _).mono ?_);rintro e w' ⟨rfl,q⟩);have s':Q w w':=Q.trans (by first|exact KK.out|exact KK.out.trans (Q.drew _)) q;clear KK;have KK:=Hd s';clear s' q))
     all_goals
      go_wp2_with fail;go_quiet (fail);go_wp2_with fail;go_ret3;exact⟨.inl ⟨m2,sd,HYV.out,rfl⟩,KK.out.trans (Q.drewN _ _)⟩
    ·have aeS:(ve==st)=false:=by simpa using jT
     have amW:@BEq.beq (List UInt8) instBEqOfDecidableEq ve st=false:=by simpa using jT
     have amX:@BEq.beq (List UInt8) List.instBEq ve st=false:=by simpa using jT
     have HE:=Hd jT;clear jT;go_wp2_with fail;go_region_held3 (fun w'=>True) (exact trivial)
      (first
       | (go_at_call 277;((with_reducible refine(CV.out _).mono ?_);rintro e w' ⟨rfl,q⟩);have s':Q w w':=Q.trans (by first|exact KK.out|exact KK.out.trans (Q.drew _)) q;clear KK;have KK:=Hd s';clear s' q))
     all_goals
      go_wp2_with fail;go_ret3;exact⟨.inr ⟨dY.out HE.out,rfl⟩,KK.out⟩
  ·have hge:∀v r,¬fY s v r:=fun v r hv=>by
    obtain⟨j,h1,h2,h3⟩:=zN s v r hv;have h4:=h2.1;have h5:=HJ.out j U;have h6:=h2.2.2.1;omega
   have wN:=Hd hge;have hor:s.length≤k∨10≤k:=U;clear hge ay;rcases hor with ho|ho;all_goals
    go_wp2_with fail;all_goals
     go_ret3;exact⟨.inr ⟨wN.out,rfl⟩,HQ.out⟩
structure db (w:World) (F:Nat→Prop) (b:Nat) (lv pv:Value) (d:af):Prop where
 box:Blk w b 68 #[lv,pv,.int .i64 d.b9,.bool d.dead]
 fb:F b
 ik:w.ownsRow 0 9 1 lv d.l.length (d.l.map ah)
 fl:∀k,lv.ownBlock=some k→F k
 ir:w.ownsRow 0 116 2 pv d.p.length (aN d.p)
 fp:∀k,pv.ownBlock=some k→F k
def cq(w:World)(F:Nat→Prop)(b:Nat)(d:af):Prop:=∃lv pv,db w F b lv pv d
theorem db.mono{w:World}{F G:Nat→Prop}{b:Nat}{lv pv:Value}{d:af}(h:db w F b lv pv d)(k:∀i,F i→G i):db w G b lv pv d :=
 ⟨h.box,k _ h.fb,h.ik,fun i e=>k _ (h.fl i e),h.ir,fun i e=>k _ (h.fp i e)⟩
theorem cq.mono{w:World}{F G:Nat→Prop}{b:Nat}{d:af}(h:cq w F b d)(k:∀i,F i→G i):cq w G b d:=by
 obtain⟨lv,pv,h⟩:=h;exact⟨lv,pv,h.mono k⟩
theorem db.beside{w w':World}{F G:Nat→Prop}{b:Nat}{lv pv:Value}{d:af}(h:db w F b lv pv d)(t:ae G w w')(hd:∀k,F k→¬G k):db w' F b lv pv d :=
 ⟨t.blk h.box (hd _ h.fb),h.fb,t.owns h.ik (fun k e=>hd _ (h.fl k e)),h.fl,t.owns h.ir (fun k e=>hd _ (h.fp k e)),h.fp⟩
theorem cq.beside{w w':World}{F G:Nat→Prop}{b:Nat}{d:af}(h:cq w F b d)(t:ae G w w')(hd:∀k,F k→¬G k):cq w' F b d:=by
 obtain⟨lv,pv,h⟩:=h;exact⟨lv,pv,h.beside t hd⟩
theorem db.keep{w w':World}{F:Nat→Prop}{b:Nat}{lv pv:Value}{d:af}(h:db w F b lv pv d)(q:Q w w'):db w' F b lv pv d :=
 h.beside (ae.br (own:=fun _=>False) q) (fun _ _=>id)
theorem cq.keep{w w':World}{F:Nat→Prop}{b:Nat}{d:af}(h:cq w F b d)(q:Q w w'):cq w' F b d :=
 h.beside (ae.br (own:=fun _=>False) q) (fun _ _=>id)
theorem db.ne{w:World}{F:Nat→Prop}{b:Nat}{lv pv:Value}{d:af}(h:db w F b lv pv d):(∀k,lv.ownBlock=some k→k≠b)∧(∀k,pv.ownBlock=some k→k≠b) :=
 ⟨fun k e=>kM h.ik h.box Z k e,fun k e=>kM h.ir h.box Z k e⟩
theorem db.ib{w:World}{F:Nat→Prop}{b:Nat}{lv pv:Value}{d:af}(h:db w F b lv pv d)(i:Nat)(v:Value):ae F w (w.setCell ⟨b,i,none⟩ v)∧(w.setCell ⟨b,i,none⟩ v).ownsRow 0 9 1 lv d.l.length (d.l.map ah) ∧
  (w.setCell ⟨b,i,none⟩ v).ownsRow 0 116 2 pv d.p.length (aN d.p)∧Blk (w.setCell ⟨b,i,none⟩ v) b 68 (#[lv,pv,.int .i64 d.b9,.bool d.dead].setIfInBounds i v):=by
 have t:ae (fun k=>k=b) w (w.setCell ⟨b,i,none⟩ v):=ae.setCell (a:=⟨b,i,none⟩) (ae.refl (fun k=>k=b) w) (.inl rfl) v
 exact⟨(ae.refl F w).setCell (.inl h.fb) v,t.owns h.ik (fun k e=>h.ne.1 k e),t.owns h.ir (fun k e=>h.ne.2 k e),h.box.set i v⟩
theorem db.b9{w:World}{F:Nat→Prop}{b:Nat}{lv pv:Value}{d:af}(h:db w F b lv pv d)(f:Int):db (w.setCell ⟨b,2,none⟩ (.int .i64 f)) F b lv pv { d with b9:=f }∧ae F w (w.setCell ⟨b,2,none⟩ (.int .i64 f)):=by
 obtain⟨h1,h2,h3,h4⟩:=h.ib 2 (.int .i64 f);exact⟨⟨h4,h.fb,h2,h.fl,h3,h.fp⟩,h1⟩
theorem db.dead{w:World}{F:Nat→Prop}{b:Nat}{lv pv:Value}{d:af}(h:db w F b lv pv d)(x:Bool):db (w.setCell ⟨b,3,none⟩ (.bool x)) F b lv pv { d with dead:=x }∧ae F w (w.setCell ⟨b,3,none⟩ (.bool x)):=by
 obtain⟨h1,h2,h3,h4⟩:=h.ib 3 (.bool x);exact⟨⟨h4,h.fb,h2,h.fl,h3,h.fp⟩,h1⟩
theorem db.empty{w:World}{F:Nat→Prop}{b:Nat}{lv pv:Value}{d:af}(h:db w F b lv pv d):db (w.setCell ⟨b,1,none⟩ (.slice none 0 0)) F b lv (.slice none 0 0) { d with p:=[] }∧ae F w (w.setCell ⟨b,1,none⟩ (.slice none 0 0)):=by
 obtain⟨h1,h2,h3,h4⟩:=h.ib 1 (.slice none 0 0);exact⟨⟨h4,h.fb,h2,h.fl,⟨rfl,.inl ⟨rfl,rfl⟩⟩,fun k e=>by simp[Value.ownBlock] at e⟩,h1⟩
theorem db.gw{w:World}{F:Nat→Prop}{b:Nat}{lv pv:Value}{d:af}(h:db w F b lv pv d):∃la lc,lv=.slice la d.l.length lc∧∀m (hm:m<d.l.length),∃g2,la=some ⟨g2,0,none⟩∧w.cell? ⟨g2,m,none⟩=some (ah d.l[m])∧w.frozen? ⟨g2,m,none⟩=false:=by
 obtain⟨la,lc,lI,om⟩:=aY h.ik;have hr:=h.ik;subst lI;refine⟨la,lc,rfl,fun m hm=>?_⟩
 obtain⟨g2,rfl⟩:=om U;refine⟨g2,rfl,?_,hr.frozenAt m⟩;rw[hr.cellAt m U];simp[hm]
theorem db.jj{w:World}{F:Nat→Prop}{b:Nat}{lv pv:Value}{d:af}(h:db w F b lv pv d):∃pa pc,pv=.slice pa d.p.length pc∧∀m (hm:m<d.p.length),∃g2,pa=some ⟨g2,0,none⟩∧w.cell? ⟨g2,m*2,none⟩=some (.int .i64 (d.p[m].1:Nat))∧w.cell? ⟨g2,m*2+1,none⟩=some (ah d.p[m].2):=by
 obtain⟨pa,pc,D5,nO⟩:=aY h.ir;have hr:=h.ir;subst D5;refine⟨pa,pc,rfl,fun m hm=>?_⟩
 obtain⟨g2,rfl⟩:=nO U;refine⟨g2,rfl,?_,?_⟩
 ·rw[hr.cellAt _ U];exact(fQ d.p m hm).1
 ·rw[hr.cellAt _ U];exact(fQ d.p m hm).2
theorem db.lay{w:World}{F:Nat→Prop}{b gl lc:Nat}{pv:Value}{d:af}(h:db w F b (.slice (some ⟨gl,0,none⟩) d.l.length lc) pv d)(i:Nat)(s:Bytes):db (w.setCell ⟨gl,i,none⟩ (ah s)) F b (.slice (some ⟨gl,0,none⟩) d.l.length lc) pv { d with l:=d.l.set i s }∧ae F w (w.setCell ⟨gl,i,none⟩ (ah s)):=by
 have hF:F gl:=h.fl gl rfl;have aU:b≠gl:=fun e=>h.ne.1 gl rfl e.symm
 have gK:∀k,pv.ownBlock=some k→k≠gl:=fun k e e2=>by
  subst e2;obtain⟨cs,hc⟩:=oH h.ir k e;obtain⟨ds,hd⟩:=oH h.ik k rfl;rw[hc] at hd;injection hd with hd;injection hd with _ hd _;exact absurd hd Z
 have t:ae (fun k=>k=gl) w (w.setCell ⟨gl,i,none⟩ (ah s)):=ae.setCell (a:=⟨gl,i,none⟩) (ae.refl (fun k=>k=gl) w) (.inl rfl) _
 have hr:=(h.ik.stored i (ah s)).1;rw[←List.map_set] at hr;refine⟨⟨t.blk h.box aU,h.fb,?_,h.fl,t.owns h.ir gK,h.fp⟩,(ae.refl F w).setCell (a:=⟨gl,i,none⟩) (.inl hF) _⟩;rw[show({ d with l:=d.l.set i s }:af).l.length=d.l.length from SP]
 exact hr
theorem Oe(w:World)(F:Nat→Prop)(b:Nat)(lv pv:Value)(d:af)(h:db w F b lv pv d)(hf : -1≤d.b9)(hf1:d.b9≤9223372036854775807):
  Calls prog 279 #[au b] w fun e w'=>e=.returned (.bool (!decide (d.b9=0)))∧db w' F b lv pv d.bh∧ae F w w'∧w'.heap.size=w.heap.size:=by
 obtain⟨c0,c1,c2,c3,f0,f1,f2,f3⟩:=h.box.c4;by_cases h0:d.b9=0
 ·have e1:(d.b9==0)=true:=NX.2 h0
  have hd:d.bh={ d with dead:=true }:=by unfold af.bh;rw[Φ h0]
  have hend:=h.dead true;rw[NO h0,hd];have bP:=bO w ⟨b,3,none⟩ (.bool true);have HE:=Hd hend;have HS:=Hd bP;clear h hend hd bP;go_enter func279,ntmps279;go_wp2;go_ret;exact⟨rfl,HE.out.1,HE.out.2,HS.out⟩
 ·have e1:(d.b9==0)=false:=Γ.2 h0
  by_cases h1:0<d.b9
  ·have hd:d.bh={ d with b9:=d.b9-1 }:=by unfold af.bh;rw[η h0,show max (d.b9-1) (-1)=d.b9-1 by omega]
   have hend:=h.b9 (d.b9-1);rw[Nx h0,hd];have bP:=bO w ⟨b,2,none⟩ (.int .i64 (d.b9-1));have HE:=Hd hend;have HS:=Hd bP;clear h hend hd bP;go_enter func279,ntmps279;go_wp2;go_ret;exact⟨rfl,HE.out.1,HE.out.2,HS.out⟩
  ·have hd:d.bh=d:=by
    unfold af.bh;rw[η h0];have:max (d.b9-1) (-1)=d.b9:=U;rw[this]
   rw[Nx h0,hd];have HE:=Hd h;clear h hd;go_enter func279,ntmps279;go_wp2;go_ret;exact⟨rfl,HE.out,ae.refl _ _,rfl⟩
theorem EK{d:af}(h:d.dead=false)(i:Int):d.chk i=if 0≤i∧i<d.l.length then 0 else 2:=by unfold af.chk;rw[h];rfl
theorem Rl{d:af}(h:d.dead=false)(i:Int)(hi:¬(0≤i∧i<d.l.length)):d.read i=([],2):=by
 unfold af.read;rw[EK h,η hi,η Z]
theorem Hk{d:af}(h:d.dead=false)(i:Nat)(hi:i<d.l.length):d.read i=(bH d.p i (d.l.getD i []),0):=by
 unfold af.read;have hc:d.chk (i:Int)=0:=by rw[EK h,Φ ⟨U,U⟩]
 rw[Φ hc];rfl
theorem GD(w:World)(F:Nat→Prop)(b:Nat)(d:af)(i:Int)(h:cq w F b d)(hm:d.l.length≤4096)(hp:d.dead=false→d.p.length≤1000000):
  Calls prog 226 #[au b,.int .i64 i] w fun e w'=>e=.returned (.tuple #[ah (d.read i).1,.int .i64 (d.read i).2])∧Q w w':=by
 obtain⟨lv,pv,hg⟩:=h;obtain⟨c0,c1,c2,c3,_⟩:=hg.box.c4;obtain⟨la,lc,rfl,lX⟩:=hg.gw;obtain⟨pa,pc,rfl,Jr⟩:=hg.jj;cases dS:d.dead with
 | true =>
  have dz:d.read i=([],4):=by unfold af.read af.chk;rw[Φ dS,η Z]
  rw[dz];rw[dS] at c3;clear hg lX Jr hp dz;go_enter func226,ntmps226;go_wp2_with fail;go_ret2;exact⟨rfl,Q.refl _⟩
 | false =>
  rw[dS] at c3;by_cases h0:i<0
  ·have dz:d.read i=([],2):=Rl dS _ U
   rw[dz];have e1:decide (i<0)=true:=NO h0;clear hg lX Jr hp dz;go_enter func226,ntmps226;go_wp2_with fail;go_ret2;exact⟨rfl,Q.refl _⟩
  ·obtain⟨i,rfl⟩:∃n:Nat,i=n:=⟨i.toNat,U⟩
   by_cases h1:i<d.l.length
   ·have dz:d.read i=(bH d.p i (d.l.getD i []),0):=Hk dS i h1
    rw[dz];have bW:=hp dS;obtain⟨g2,rfl,x0,_⟩:=lX i h1;have hge:d.l[i]=d.l.getD i []:=by rw[Θ,Mp h1];rfl
    rw[hge] at x0;have e1:(i:Int)<(d.l.length:Int):=U;clear lX hg hge;generalize d.l.getD i []=s0 at *;have hcut:=Gc d.p i s0;have kr:∀k (hk:k<d.p.length),bH (d.p.take (k+1)) i s0=if d.p[k].1=i then d.p[k].2 else bH (d.p.take k) i s0:=fun k hk=>by rw[M2 hk,uo]
    generalize u7:d.p=p at *;generalize d.l.length=n at *;have RL:=Hd Jr;have ZW:=Hd kr;clear Jr hcut kr hp dz;go_enter func226,ntmps226;go_wp2_with fail;go_loop [6,7] (fun sv v=>∃k:Nat,v=.int .i64 (k:Nat)∧k≤p.length∧sv=ah (bH (p.take k) i s0)) (fun _ v=>p.length-(intOf v).toNat)
    case atStart=>exact⟨0,rfl,MD _,rfl⟩
    case round =>
     obtain⟨k,rfl,hk,rfl⟩:=hrel;by_cases ay:k<p.length
     ·have bq:(k:Int)<(p.length:Int):=U
      obtain⟨g3,rfl,y1,y2⟩:=RL.out k ay;have kr:=ZW.out k ay;by_cases hit:p[k].1=i
      ·have hb:(((p[k].1:Nat):Int)==(i:Nat))=true:=NX.2 U
       rw[Φ hit] at kr;have HS:=Hd kr;clear kr;go_wp2_with fail;exact⟨⟨k+1,by go_num,U,by rw[HS.out]⟩,by simp[intOf];omega⟩
      ·have hb:(((p[k].1:Nat):Int)==(i:Nat))=false:=Γ.2 U
       rw[η hit] at kr;have HS:=Hd kr;clear kr;go_wp2_with fail;exact⟨⟨k+1,by go_num,U,by rw[HS.out]⟩,by simp[intOf];omega⟩
     ·have bq:¬(k:Int)<(p.length:Int):=U
      obtain rfl:k=p.length:=U;rw[N5] at *;go_wp2_with fail;go_ret2;exact⟨rfl,Q.refl _⟩
   ·have dz:d.read i=([],2):=Rl dS _ U
    rw[dz];have e1:decide ((d.l.length:Int)≤(i:Int))=true:=NO U;clear hg lX Jr hp dz;generalize d.l.length=n at *;go_enter func226,ntmps226;go_wp2_with fail;go_ret2;exact⟨rfl,Q.refl _⟩
theorem qn(l:List WrL):∀u∈aN l,u.oneCell'=true:=by
 intro u hu;obtain⟨d,_,hd⟩:=PT.1 hu;simp[mX] at hd;rcases hd with rfl|rfl<;>rfl
theorem Hv(W:World)(base:Nat)(hb:base≤W.heap.size):(W.alloc (.cells #[] 116)).ownsRow base 116 2 (.slice (some ⟨W.heap.size,0,none⟩) 0 0) 0 (aN []):=⟨rfl,.inr ⟨W.heap.size,0,#[],rfl,hb,heap_alloc_new _ _,Ω _,Z,rfl,rfl⟩⟩
theorem db.pend{w w2:World}{F:Nat→Prop}{b:Nat}{lv pv:Value}{d:af}(h:db w F b lv pv d)(q:Q w w2)(v:Value)(ps:List WrL)(hr:w2.ownsRow w.heap.size 116 2 v ps.length (aN ps)):
  db (w2.setCell ⟨b,1,none⟩ v) (grow F w (w2.setCell ⟨b,1,none⟩ v)) b lv v { d with p:=ps }∧ae F w (w2.setCell ⟨b,1,none⟩ v):=by
 have hk:=h.keep q;obtain⟨h1,h2,h3,h4⟩:=hk.ib 1 v;have hb:=hk.box;have t:ae (fun k=>k=b) w2 (w2.setCell ⟨b,1,none⟩ v):=ae.setCell (a:=⟨b,1,none⟩) (ae.refl (fun k=>k=b) w2) (.inl rfl) _
 refine⟨⟨h4,.inl h.fb,h2,fun k e=>.inl (h.fl k e),t.owns (gT hr (MD _)) (fun k e=>kM hr hb Z k e),fun k e=>.inr ?_⟩,(ae.br q).trans h1⟩
 have:=hr.lt k e;exact⟨this.1,by rw[bO];exact this.2⟩
theorem EL(w:World)(F:Nat→Prop)(b:Nat)(d:af)(i:Int)(s:Bytes)(h:cq w F b d)(hd:d.Ok)(hp:d.dead=false→d.p.length≤1000000)(hs:s.length≤9223372036854775807):
  Calls prog 223 #[au b,.int .i64 i,ah s] w fun e w'=>e=.returned (.int .i64 (d.write i s).2)∧cq w' (grow F w w') b (d.write i s).1∧ae F w w':=by
 obtain⟨lv,pv,hg⟩:=h;obtain⟨c0,c1,c2,c3,_⟩:=hg.box.c4;obtain⟨la,lc,rfl,lX⟩:=hg.gw;clear lX;have sK:=hg.mono (fun k hk=>oJ (A:=w) (B:=w) hk)
 have hm:=hd.max;have dK:∀{e:Int},(d.write i s)=(d,e)→cq w (grow F w w) b (d.write i s).1:=fun he=>by rw[he];exact⟨_,pv,sK⟩
 cases dS:d.dead with
 | true =>
  have hc:d.chk i=4:=by unfold af.chk;rw[Φ dS]
  have hw:d.write i s=(d,4):=by rw[Gj i s (by rw[hc];decide),hc]
  have hend:=dK hw;rw[hw] at hend ⊢;rw[dS] at c3;have HE:=Hd hend;clear hend hg sK dK hw hd hp hc;go_enter func223,ntmps223;go_wp2_with fail;go_ret;exact⟨rfl,HE.out,ae.refl _ _⟩
 | false =>
  rw[dS] at c3;by_cases oZ:0≤i∧i<d.l.length
  ·have hc:d.chk i=0:=by rw[EK dS,Φ oZ]
   obtain⟨qL,qG⟩:=oZ;have e1:decide (i<0)=false:=Nx U;have e2:decide ((d.l.length:Int)≤i)=false:=Nx U;by_cases h1:s.length=256
   ·have e3:(!((s.length:Int)==256))=false:=by rw[NX.2 U];rfl
    have ht:=Oe w F b _ pv d hg hd.b9 hd.jz;by_cases h2:d.b9=0
    ·have hw:d.write i s=(d.bh,4):=by unfold af.write;rw[η (by rw[hc];simp),η (by rw[h1];simp),Φ h2]
     rw[NO h2] at ht;rw[hw];have HT:=Hd ht;clear ht hg sK dK hw hd hp hc;generalize d.l.length=n at *;go_enter func223,ntmps223;go_wp2_with fail;refine HT.out.mono ?_;rintro e w1 ⟨rfl,eT,t1,bB⟩;have HG:=Hd eT;have nW:=Hd t1;clear eT t1;go_wp2_with fail;go_ret;exact⟨rfl,⟨_,_,HG.out.mono (fun k hk=>oJ hk)⟩,nW.out⟩
    ·rw[Nx h2] at ht
     have hw:d.write i s=({ d.bh with p:=d.bh.p++[(i.toNat,s)] },0):=by unfold af.write;rw[η (by rw[hc];simp),η (by rw[h1];simp),η h2,(af.df d).2]
     have bW:d.bh.p.length≤1000000:=by rw[(af.df d).2];exact hp dS
     have hx:[Value.int .i64 i,ah s]=mX (i.toNat,s):=by unfold mX;rw[aak qL]
     rw[hw];obtain⟨i0,hi,bY,bB,aW⟩:=info_parts nC;generalize d.bh=d2 at *;have HT:=Hd ht;have HX:=Hd hx;clear hg sK dK hw hd hp hx ht hc;generalize d.l.length=n at *;go_enter func223,ntmps223;go_wp2_with fail;refine HT.out.mono ?_;rintro e w1 ⟨rfl,eT,t1,Sb⟩;obtain⟨a0,a1,a2,a3,f0,f1,f2,f3⟩:=eT.box.c4;have jJ:=Q.alloc w1 (.cells #[] 116);have bX:=(Sl.cy eT.ir).stays jJ;have b1:=aI jJ a1;have CB:=Hv w1 w1.heap.size (Ω _);have h5:0+d2.p.length≤maxLen:=by unfold maxLen;omega
     have h6:(0+d2.p.length)*24≤140737488355328:=U;have HG:=Hd eT;have nW:=Hd t1;have HZ:=Hd Sb;have xG:=Hd bX;have HOW:=Hd CB;have H5:=Hd h5;have H6:=Hd h6;have zH:=Hd jJ;have H1:=Hd (qn d2.p);clear eT t1 Sb bX CB h5 h6 jJ;go_wp2_with (at_builtin;refine fM (w1.alloc (.cells #[] 116)) ρ _ _ 66 ρ w1.heap.size 116 i0 (.agg #[.int .i64 0,ah []]) 2 24 underlying66 hi bY bB aW rfl Z _ 0 (aN []) ρ HOW.out pv d2.p.length (aN d2.p) ρ xG.out H1.out H5.out H6.out κ ?_)
     intro v' w' hr oW ho;have Wl:Q w1 w':=bD zH.out HOW.out oW (Ω _) zH.out.size;have pW:w'.ownsRow w1.heap.size 116 2 v' d2.p.length (aN d2.p):=hr;have cO:∀u∈#[Value.int .i64 i,ah s].toList,u.oneCell'=true:=by intro u hu;simp at hu;rcases hu with rfl|rfl<;>rfl
     have dI:(d2.p.length+1)*24≤140737488355328:=U;have HQ':=Hd Wl;have Ct:=Hd pW;have vg:=Hd cO;have xI:=Hd dI;have x0:=aI Wl a0;have x1:=aI Wl a1;have x2:=aI Wl a2;have x3:=aI Wl a3;clear Wl pW cO dI hr oW ho;go_wp2_with (at_builtin;refine bG w' ρ _ _ 66 ρ w1.heap.size 116 _ i0 (.agg #[.int .i64 0,ah []]) 2 24 underlying66 hi bY bB aW rfl Z Z _ _ _ ρ Ct.out #[.int .i64 i,ah s] ρ rfl vg.out xI.out HQ'.out.size ?_)
     intro g2 cap2 w3 Zn nu Zw aaX Kn;have Cr:Q w1 w3:=bD HQ'.out Ct.out nu (Ω _) HQ'.out.size;have OI:w3.ownsRow w1.heap.size 116 2 (.slice (some ⟨g2,0,none⟩) (d2.p.length+1) cap2) (d2.p++[(i.toNat,s)]).length (aN (d2.p++[(i.toNat,s)])):=by
      rw[iF,show(d2.p++[(i.toNat,s)]).length=d2.p.length+1 by simp,show aN [(i.toNat,s)]=mX (i.toNat,s) by simp[aN],←HX.out]
      exact Zn
     have hend:=HG.out.pend Cr _ _ OI;have y1:=aI Cr a1;have z1:=(HG.out.keep Cr).box.frozen 1;have HE:=Hd hend;clear hend OI Cr Zn nu Zw;go_wp2_with fail;go_ret;refine⟨rfl,⟨_,_,HE.out.1.mono (fun k hk=>?_)⟩,nW.out.trans HE.out.2⟩
     rcases hk with hk|hk
     ·exact .inl hk
     ·exact .inr ⟨by rw[←HZ.out];exact hk.1,hk.2⟩
   ·have e3:(!((s.length:Int)==256))=true:=by rw[Γ.2 U];rfl
    have hw:d.write i s=(d,3):=by unfold af.write;rw[η (by rw[hc];simp),Φ h1]
    have hend:=dK hw;rw[hw] at hend ⊢;have HE:=Hd hend;clear hend hg sK dK hw hd hp hc;generalize d.l.length=n at *;go_enter func223,ntmps223;go_wp2_with fail;go_ret;exact⟨rfl,HE.out,ae.refl _ _⟩
  ·have hc:d.chk i=2:=by rw[EK dS,η oZ]
   have hw:d.write i s=(d,2):=by rw[Gj i s (by rw[hc];decide),hc]
   have hend:=dK hw;rw[hw] at hend ⊢;have HE:=Hd hend;clear hend hg sK dK hw hd hp hc;by_cases h0:i<0
   ·have e1:decide (i<0)=true:=NO h0
    go_enter func223,ntmps223;go_wp2_with fail;go_ret;exact⟨rfl,HE.out,ae.refl _ _⟩
   ·have e1:decide (i<0)=false:=Nx h0
    have e2:decide ((d.l.length:Int)≤i)=true:=NO U;generalize d.l.length=n at *;go_enter func223,ntmps223;go_wp2_with fail;go_ret;exact⟨rfl,HE.out,ae.refl _ _⟩
theorem Lu(w:World)(F:Nat→Prop)(b:Nat)(d:af)(h:cq w F b d)(hd:d.Ok)(hp:d.dead=false→d.p.length≤1000000):
  Calls prog 225 #[au b] w fun e w'=>e=.returned (.int .i64 d.bu.2)∧cq w' F b d.bu.1∧ae F w w':=by
 obtain⟨lv,pv,hg⟩:=h;obtain⟨c0,c1,c2,c3,_⟩:=hg.box.c4;cases dS:d.dead with
 | true =>
  have hw:d.bu=(d,4):=by unfold af.bu;rw[Φ dS]
  rw[hw];rw[dS] at c3;have HG:=Hd hg;clear hg hw hd hp;go_enter func225,ntmps225;go_wp2_with fail;go_ret;exact⟨rfl,⟨_,_,HG.out⟩,ae.refl _ _⟩
 | false =>
  rw[dS] at c3;have ht:=Oe w F b lv pv d hg hd.b9 hd.jz;by_cases h2:d.b9=0
  ·have hw:d.bu=(d.bh,4):=by unfold af.bu;rw[η (by rw[dS];decide),Φ h2]
   rw[NO h2] at ht;rw[hw];have HT:=Hd ht;clear ht hg hw hd hp;go_enter func225,ntmps225;go_wp2_with fail;refine HT.out.mono ?_;rintro e w1 ⟨rfl,eT,t1,bB⟩;have HG:=Hd eT;have nW:=Hd t1;clear eT t1;go_wp2_with fail;go_ret;exact⟨rfl,⟨_,_,HG.out⟩,nW.out⟩
  ·rw[Nx h2] at ht
   have hw:d.bu=({ d.bh with l:=iw d.bh.l d.bh.p,p:=[] },0):=by unfold af.bu;rw[η (by rw[dS];decide),η h2,(af.df d).1,(af.df d).2]
   have bW:d.bh.p.length≤1000000:=by rw[(af.df d).2];exact hp dS
   have gX:=af.gt hd;rw[hw];generalize d.bh=d2 at *;have HT:=Hd ht;have fV:∀k (hk:k<d2.p.length),d2.p[k].1<d2.l.length:=fun k hk=>(gX.p _ (MA hk)).1
   have hmax:=gX.max;have kY:=Hd fV;clear ht hg hw hd hp gX fV;go_enter func225,ntmps225;go_wp2_with fail;refine HT.out.mono ?_;rintro e w1 ⟨rfl,eT,t1,bB⟩;obtain⟨la,lc,rfl,lX⟩:=eT.gw;obtain⟨pa,pc,rfl,Jr⟩:=eT.jj;clear lX Jr;have HG:=Hd eT;have nW:=Hd t1;clear eT t1 bB c0 c1 c2 c3;go_wp2_with fail;go_loopw [4] (fun v wr=>∃k:Nat,v=.int .i64 (k:Nat)∧k≤d2.p.length∧Hid (db wr F b (.slice la d2.l.length lc) (.slice pa d2.p.length pc) { d2 with l:=iw d2.l (d2.p.take k) })∧Hid (ae F w1 wr)) (fun v _=>d2.p.length-(intOf v).toNat)
   case atStart=>exact⟨0,rfl,MD _,HG.out,ae.refl _ _⟩
   case round =>
    obtain⟨k,rfl,kW,jU,fG⟩:=hrel;obtain⟨d0,d1,d2',d3,e0,e1,e2,e3⟩:=jU.out.box.c4;by_cases ay:k<d2.p.length
    ·have bq:(k:Int)<(d2.p.length:Int):=U
     have EP:(0:Int)≤(k:Int):=U;have oZ:=kY.out k ay;have oP:(iw d2.l (d2.p.take k)).length=d2.l.length:=lY _ _;obtain⟨pa',pc',D5,kR⟩:=jU.out.jj;obtain⟨la',lc',lI,lX⟩:=jU.out.gw;simp only[Value.slice.injEq] at D5 lI;obtain⟨rfl,DZ,rfl⟩:=D5;obtain⟨rfl,qF,rfl⟩:=lI;clear DZ qF;obtain⟨g2,rfl,xx1,xx2⟩:=kR k ay;obtain⟨gl,rfl,yy1,y2⟩:=lX d2.p[k].1 (by show _<(iw d2.l (d2.p.take k)).length;omega)
     obtain⟨old,y1⟩:∃s,wr.cell? ⟨gl,d2.p[k].1,none⟩=some (ah s):=⟨_,yy1⟩;have x1:wr.cell? ⟨g2,k*2,none⟩=some (.int .i64 (d2.p[k].1:Nat)):=xx1;have x2:wr.cell? ⟨g2,k*2+1,none⟩=some (ah d2.p[k].2):=xx2;clear yy1 xx1 xx2;have aif:((d2.p[k].1:Nat):Int)<(d2.l.length:Int):=U;have afF:(0:Int)≤((d2.p[k].1:Nat):Int):=U;have kU:=NG d2.l d2.p k ay;have aX:=Hd kU;have nu:=jU.out;rw[show d2.l.length=({ d2 with l:=iw d2.l (d2.p.take k) }:af).l.length from oP.symm] at nu
     have hend:=fun (W:World) (q:Q wr W)=>(nu.keep q).lay d2.p[k].1 d2.p[k].2
     have Dy:=Hd hend;have z0:wr.cell? ⟨b,0,none⟩=some (.slice (some ⟨gl,0,none⟩) d2.l.length lc):=jU.out.box.c4.1;have z1:wr.cell? ⟨b,1,none⟩=some (.slice (some ⟨g2,0,none⟩) d2.p.length pc):=jU.out.box.c4.2.1;clear kU kR lX nu hend d0 d1 d2' d3 e0 e1 e2 e3;generalize eu:d2.p[k].1=bk at *;generalize zC:d2.p[k].2=dk at *;go_wp2_with fail;go_region;all_goals
      go_wp2_with fail;go_roundw;case rel =>
       refine⟨k+1,by go_num,U,?_,?_⟩
       ·rw[aX.out]
        have h:=(Dy.out _ (Q.drew _)).1;rw[show({ d2 with l:=iw d2.l (d2.p.take k) }:af).l.length=d2.l.length from oP] at h
        exact Hd h
       ·exact Hd ((fG.out.q (Q.drew _)).trans (Dy.out _ (Q.drew _)).2)
      case measure=>simp[intOf];omega
    ·have bq:¬(k:Int)<(d2.p.length:Int):=U
     have Ae:k=d2.p.length:=U;subst Ae;have nu:=jU.out;rw[N5] at nu;have hend:=nu.empty;have HE:=Hd hend;clear hend nu;go_wp2_with fail;go_ret;exact⟨rfl,⟨_,_,HE.out.1⟩,nW.out.trans (fG.out.trans HE.out.2)⟩
theorem l9(s:Bytes)(w:World)(hs:4≤s.length)(jm:s.length≤9223372036854775807):
  Calls prog 280 #[ah s] w fun e w'=>e=.returned (.tuple #[.int .u32 (aM s:Nat),ah (s.drop 4),.bool true])∧Q w w':=by
 have e0:¬(s.length:Int)<4:=U;have h0:(0:Nat)<s.length:=U;have h1:(1:Nat)<s.length:=U;have h2:(2:Nat)<s.length:=U;have h3:(3:Nat)<s.length:=U;have i1:(1:Int)<(s.length:Int):=U;have i2:(2:Int)<(s.length:Int):=U;have i3:(3:Int)<(s.length:Int):=U;have i4:(4:Int)≤(s.length:Int):=U;go_enter func280,ntmps280;go_wp2_with fail;go_quiet (fail);simp only[yO s 0 h0,yO s 1 h1,yO s 2 h2,yO s 3 h3];have b0:=jW s 0;have b1:=jW s 1;have b2:=jW s 2;have b3:=jW s 3;have hv:((((bA s 0:Nat):Int)+256*(((bA s 1:Nat):Int)%4294967296)+65536*(((bA s 2:Nat):Int)%4294967296))%4294967296+16777216*(((bA s 3:Nat):Int)%4294967296)%4294967296)%4294967296=((aM s:Nat):Int):=by unfold aM;omega
 rw[hv];go_wp2_with fail;go_ret3;exact⟨by rw[fI];rfl,Q.drewN _ _⟩
def Cj(s:Bytes):Nat:=aM (s.drop 4)*4294967296+aM s
theorem Oh(s:Bytes)(w:World)(hs:8≤s.length)(jm:s.length≤1000000):
  Calls prog 281 #[ah s] w fun e w'=>e=.returned (.int .u64 (Cj s:Nat))∧Q w w':=by
 have c1:=fun (W:World)=>l9 s W U U
 have c2:=fun (W:World)=>l9 (s.drop 4) W (by rw[MM];omega) (by rw[MM];omega)
 have i4:(4:Int)≤(s.length:Int):=U;have hd:({ data:=s.toArray }:ByteArray).extract 4 s.length=⟨(s.drop 4).toArray⟩:=fI s 4;have u1:=eU s;have u2:=eU (s.drop 4);have hv:((Cj s:Nat):Int)=(aM (s.drop 4):Int)*4294967296+(aM s:Int):=by unfold Cj;omega
 rw[hv];generalize aM s=a at *;generalize aM (s.drop 4)=b at *;have C1:=Hd c1;have C2:=Hd c2;clear c1 c2 hv;go_enter func281,ntmps281;go_wp2_with fail;refine(C1.out _).mono ?_;rintro e w1 ⟨rfl,q1⟩;go_wp2_with fail;refine(C2.out _).mono ?_;rintro e w2 ⟨rfl,q2⟩;have Q2:=Hd (q1.trans q2);clear q1 q2;go_wp2_with fail;go_ret;exact⟨rfl,Q2.out⟩
theorem Ve(x:Int)(w:World):Calls prog 145 #[.int .u32 (IntKind.u32.wrap x)] w fun e w'=>e=.returned (ah (aB (x%4294967296).toNat))∧Q w w':=by
 have h:IntKind.u32.wrap x=((x%4294967296).toNat:Nat):=by simp[IntKind.wrap,IntKind.bits,IntKind.signed];omega
 rw[h];exact ru _ w U
theorem EM(s:bw)(hs:s.Ok)(w:World):
  Calls prog 224 #[.agg #[.int .u64 (s.e:Nat),.int .u64 (s.s:Nat),.int .i64 (s.log:Nat),.int .i64 (s.place:Nat)]] w fun e w'=>e=.returned (ah (aQ s))∧Q w w':=by
 have cf:=fun (x:Int) (W:World)=>Ve x W
 have hlf:∀v,(aB v).length=4:=aH;have CF:=Hd cf;have HS:=Hd hs;have qa:=(Q.alloc w (.cells #[.int .u64 (s.e:Nat),.int .u64 (s.s:Nat),.int .i64 (s.log:Nat),.int .i64 (s.place:Nat)] 136));clear cf;obtain⟨h1,h2,h3,h4⟩:=hs;go_enter func224,ntmps224;go_upto_region 1 with fail;obtain⟨b0,b1,b2,b3,_⟩:=(Blk.new w 136 #[.int .u64 (s.e:Nat),.int .u64 (s.s:Nat),.int .i64 (s.log:Nat),.int .i64 (s.place:Nat)]).c4;generalize eO:w.alloc (.cells #[.int .u64 (s.e:Nat),.int .u64 (s.s:Nat),.int .i64 (s.log:Nat),.int .i64 (s.place:Nat)] 136)=w1 at *;clear eO;have KQ:=Hd (Q.refl w1);go_region_held3 (fun w'=>w'.cell? ⟨w.heap.size,0,none⟩=some (.int .u64 (s.e:Nat))∧w'.cell? ⟨w.heap.size,1,none⟩=some (.int .u64 (s.s:Nat))∧w'.cell? ⟨w.heap.size,2,none⟩=some (.int .i64 (s.log:Nat))∧w'.cell? ⟨w.heap.size,3,none⟩=some (.int .i64 (s.place:Nat)))
  (first|exact⟨b0,b1,b2,b3⟩|exact⟨aI ε b0,aI ε b1,aI ε b2,aI ε b3⟩)
  (first
   | (go_at_call 145;with_reducible refine(CF.out _ _).mono ?_;rintro e w3 ⟨rfl,q3⟩;have s':Q w1 w3:=Q.trans ε q3;clear KQ;have KQ:=Hd s';clear s' q3))
 all_goals
  have Cr:Q w w3:=qa.trans KQ.out;have fu:=Hd Cr;have x1:(((s.e:Int).tmod 4294967296)%4294967296).toNat=s.e%4294967296:=by rw[Zs U];omega
  have x2:((s.e:Int) / 4294967296%4294967296).toNat=s.e / 4294967296:=U;have x3:(((s.s:Int).tmod 4294967296)%4294967296).toNat=s.s%4294967296:=by rw[Zs U];omega
  have x4:((s.s:Int) / 4294967296%4294967296).toNat=s.s / 4294967296:=U;have x5:((s.log:Int)%4294967296).toNat=s.log:=U;have x6:((s.place:Int)%4294967296).toNat=s.place:=U;have Z9:(#[67,68,88,83]:Array UInt8)=fS.toArray:=rfl;simp only[x1,x2,x3,x4,x5,x6,uq,Z9,bytes_append];have nS:(fS++aB s.e++aB (s.e / 4294967296)++aB s.s++aB (s.s / 4294967296)++aB s.log++aB s.place).length=28:=by simp only[Δ,aH];rfl
  have hend:(fS++aB s.e++aB (s.e / 4294967296)++aB s.s++aB (s.s / 4294967296)++aB s.log++aB s.place)++bg 100=gN s:=by simp only[gN,MY]
  have amZ:=nE s;have aC:aQ s=gN s++gN s:=rfl;have aiZ:=Hd aC;clear aC;generalize fS++aB s.e++aB (s.e / 4294967296)++aB s.s++aB (s.s / 4294967296)++aB s.log++aB s.place=tt at *;generalize gN s=sh at *;obtain⟨i,hi,bY,bB,aW⟩:=info_parts ze;have km:=run_make (P:=prog) w3 84 5 _ _ underlying84 hi bY .i64 .i64 100 100 U (aac _) (by rw[aW];omega) U
  have hb:=(ci.zeros w3 (100:Int).toNat 5).back (P:=prog) 84 9 5 (100:Int).toNat underlying84 underlying5 underlying9;rw[Of] at hb;rw[show List.replicate (100:Int).toNat (0:UInt8)=bg 100 from rfl] at hb
  rw[bB,abk,show(Value.int IntKind.u8 0).cells=#[.int .u8 0] from rfl] at km
  have hq:=Q.alloc w3 (.cells (madeCells #[.int .u8 0] (100:Int).toNat) 5);have TG:(tt.length:Int)=28:=U;have xX:(bg 100).length=100:=rfl;generalize (100:Int).toNat=mm at *;generalize w3.alloc (.cells (madeCells #[.int .u8 0] mm) 5)=w4 at *;generalize bg 100=z at *;have lH:=Hd (Cr.trans hq);have Dy:=Hd hend;clear Cr hq bY bB aW x1 x2 x3 x4 x5 x6 Z9 hend KQ qa;go_wp2_with fail;go_ret;exact⟨by rw[aiZ.out,←Dy.out];simp only[bytes_append];rfl,lH.out⟩
end
section
theorem Fs(t:Bytes)(m:Nat)(h:4≤m):aM (t.take m)=aM t:=by
 have e:∀k,k<4→bA (t.take m) k=bA t k:=fun k hk=>by
  unfold bA;rw[Θ,Θ,adq U]
 unfold aM;rw[e 0 U,e 1 U,e 2 U,e 3 U]
def iz(s:Bytes)(k:Nat):Nat:=aM (s.drop (16+4*k))
def xC(s:Bytes)(k:Nat):List Nat:=(List.range k).map (iz s)
theorem XV(s:Bytes)(k:Nat):xC s (k+1)=xC s k++[iz s k]:=by unfold xC;rw[UV,Pu];rfl
theorem GH(s:Bytes)(k:Nat):(xC s k).length=k:=by simp[xC]
theorem Oi(n:Nat):∀(t:Bytes),(∀k,k<n→aM (t.drop (4*k))<4096)→numsL n t=some ((List.range n).map (fun k=>aM (t.drop (4*k))),t.drop (4*n)):=by
 induction n with
 | zero=>intro t h;rfl
 | succ n ih =>
  intro t h;have h0:=h 0 U;rw[acG,SU] at h0;have h1:=ih (t.drop 4) (fun k hk=>by have:=h (k+1) U;rw[Ps];rwa [show 4+4*k=4*(k+1) by omega])
  rw[numsL,Φ h0,h1,abh];simp only[acv,On,SJ,acG,SU,Ps];congr 2
  ·congr 1
   refine P4 (fun k _=>?_)
   simp only[Function.comp];rw[show 4+4*k=4*(k+1) by omega]
  ·rw[show 4+4*n=4*(n+1) by omega]
theorem Rm(n:Nat):∀(t:Bytes) (k:Nat),k<n→¬aM (t.drop (4*k))<4096→numsL n t=none:=by
 induction n with
 | zero=>intro t k h;omega
 | succ n ih =>
  intro t k hk hb;rw[numsL];by_cases h0:aM t<4096
  ·rw[Φ h0]
   cases k with
   | zero=>rw[acG,SU] at hb;exact absurd h0 hb
   | succ k =>
    rw[ih (t.drop 4) k U (by rw[Ps,show 4+4*k=4*(k+1) by omega];exact hb)]
    rfl
  ·rw[η h0]
theorem Bd(s:Bytes)(k:Nat)(h:k<48):aM (((s.drop 16).take 232).drop (4*k))=iz s k:=by
 unfold iz;rw[aad,Ps,Fs _ _ U]
theorem Vf(s:Bytes)(hl:s.length=256)(h1:s.take 4=ek)(h2:s.drop 252=dq)(h3:1≤aM (s.drop 12))(h4:aM (s.drop 12)≤48)(h5:∀k,k<aM (s.drop 12)→iz s k<4096)(h6:∀i,16+4*aM (s.drop 12)≤i→i<248→bA s i=0):
  dV s=some (aM (s.drop 8)*4294967296+aM (s.drop 4),xC s (aM (s.drop 12))):=by
 unfold dV;rw[Φ ⟨hl,h1,h2⟩];simp only[];rw[Φ ⟨h3,h4⟩,Oi _ _ (fun k hk=>by rw[Bd s k U];exact h5 k hk)]
 simp only[];rw[Φ]
 ·congr 2
  unfold xC;refine P4 (fun k hk=>?_)
  exact Bd s k (by have:=Sa.1 hk;omega)
 ·rw[abE]
  intro x hx;obtain⟨i,hi,rfl⟩:=QR hx;rw[MM,Mz,MM,hl] at hi;have hb:=h6 (16+(4*aM (s.drop 12)+i)) U U;rw[W7,abm,W7];unfold bA at hb;rw[Θ,Mp U] at hb;simp only[aag] at hb;rw[NX];exact UInt8.toNat_inj.1 (by simpa using hb)
theorem XW(s:Bytes)(h:¬(1≤aM (s.drop 12)∧aM (s.drop 12)≤48)):dV s=none:=by
 unfold dV;split
 ·simp only[];rw[η h]
 ·rfl
theorem XY(s:Bytes)(k:Nat)(hk:k<aM (s.drop 12))(h4:aM (s.drop 12)≤48)(hb:¬iz s k<4096):dV s=none:=by
 unfold dV;split
 ·simp only[]
  split
  ·rw[Rm _ _ k hk (by rw[Bd s k U];exact hb)]
  ·rfl
 ·rfl
theorem Vg(s:Bytes)(hl:s.length=256)(h4:aM (s.drop 12)≤48)(i:Nat)(h1:16+4*aM (s.drop 12)≤i)(h2:i<248)(hb:bA s i≠0):dV s=none:=by
 unfold dV;split
 ·simp only[]
  split
  ·by_cases hg:∀k,k<aM (s.drop 12)→iz s k<4096
   ·rw[Oi _ _ (fun k hk=>by rw[Bd s k U];exact hg k hk)]
    simp only[];rw[η];intro hall;rw[abE] at hall;have hm:s[i]' U∈(List.take 232 (List.drop 16 s)).drop (4*aM (List.drop 12 s)):=by
     refine List.mem_iff_getElem.2 ⟨i-16-4*aM (s.drop 12),by rw[MM,Mz,MM,hl];omega,?_⟩
     rw[W7,abm,W7];congr 1;omega
    have:=hall _ hm;rw[NX] at this;apply hb;unfold bA;rw[Θ,Mp U];simp only[aag];rw[this];rfl
   ·obtain⟨k,hk⟩:=Classical.not_forall.1 hg
    obtain⟨Bv,kW⟩:=Classical.not_imp.1 hk;rw[Rm _ _ k Bv (by rw[Bd s k U];exact kW)]
  ·rfl
 ·rfl
theorem Rn(s:Bytes)(h:¬(s.length=256∧s.take 4=ek∧s.drop 252=dq)):dV s=none:=by
 unfold dV;rw[η h]
end
section
open Go.RowKit
def rz(seq:Nat)(ws:List WrL)(k:Nat):Bytes:=ek++aB seq++aB (seq / 4294967296)++aB ws.length++iR ((ws.take k).map (·.1))
theorem XZ(seq:Nat)(ws:List WrL)(k:Nat)(h:k<ws.length):rz seq ws (k+1)=rz seq ws k++aB ws[k].1:=by
 unfold rz;rw[M2 h,Pu];simp[iR,MY]
theorem tf(seq:Nat)(ws:List WrL)(k:Nat)(h:k≤ws.length):(rz seq ws k).length=16+4*k:=by
 unfold rz;simp only[Δ,aH,uw,OK,Mz];have:ek.length=4:=rfl;omega
theorem s8(seq:Nat)(ws:List WrL):rz seq ws ws.length++bg (232-4*ws.length)=jo seq ws:=by
 unfold rz jo;rw[N5];simp only[MY]
theorem vA(w:World)(seq:Nat)(hs:seq<18446744073709551616)(lv:Value)(ws:List WrL)(hl:Sl w lv ws.length 2 (aN ws))(hn:ws.length≤48)(hw:∀x∈ws,x.1<4096):
  Calls prog 284 #[.int .u64 (seq:Nat),lv] w fun e w'=>e=.returned (ah (jo seq ws))∧Q w w':=by
 obtain⟨la,lc,rfl,lX⟩:=hl.value;have aP:∀k (hk:k<ws.length),∃lb lo,la=some ⟨lb,lo,none⟩∧w.cell? ⟨lb,lo+k*2,none⟩=some (.int .i64 (ws[k].1:Nat))∧ws[k].1<4096:=fun k hk=>by
  obtain⟨lb,lo,h1,h4⟩:=lX U;exact⟨lb,lo,h1,h4 _ _ (fQ ws k hk).1,hw _ (MA hk)⟩
 have cf:=fun (v:Nat) (hv:v<4294967296) (W:World)=>ru v W hv
 have CF:=Hd cf;have HC:=Hd aP;have f1:(aB (seq%4294967296))=aB seq:=uq seq;have F1:=Hd f1;clear cf aP lX hl f1;go_enter func284,ntmps284;go_wp2_with fail;rw[show((seq:Int)%4294967296)=((seq%4294967296:Nat):Int) by omega]
 refine(CF.out _ U _).mono ?_;rintro e w1 ⟨rfl,q1⟩;rw[F1.out];have l1:=aH seq;have l2:=aH (seq / 4294967296);have l3:=aH ws.length;have dF:=Hd q1;clear q1;go_wp2_with fail;rw[show((seq:Int) / 4294967296)=((seq / 4294967296:Nat):Int) by omega]
 refine(CF.out _ U _).mono ?_;rintro e w2 ⟨rfl,q2⟩;have bJ:=Hd (dF.out.trans q2);clear q2;go_wp2_with fail;refine(CF.out _ U _).mono ?_;rintro e w3 ⟨rfl,q3⟩;have fu:=Hd (bJ.out.trans q3);clear q3;go_wp2_with fail;have Z9:(#[67,68,88,84]:Array UInt8)=ek.toArray:=rfl;simp only[Z9,bytes_append,MY];have sK:ek++(aB seq++(aB (seq / 4294967296)++aB ws.length))=rz seq ws 0:=by unfold rz;simp[iR]
 rw[sK];clear sK Z9 l1 l2 l3 hs;go_loopw [5,6] (fun tv v wr=>∃k:Nat,v=.int .i64 (k:Nat)∧k≤ws.length∧tv=ah (rz seq ws k)∧Hid (Q w wr)) (fun _ v _=>ws.length-(intOf v).toNat)
 case atStart=>exact⟨0,rfl,MD _,rfl,fu.out⟩
 case round =>
  obtain⟨k,rfl,hk,rfl,HQ⟩:=hrel;have pV:=tf seq ws k hk;by_cases ay:k<ws.length
  ·have bq:(k:Int)<(ws.length:Int):=U
   obtain⟨lb,lo,rfl,x1,hx⟩:=HC.out k ay;have y1:=aI HQ.out x1;have aC:=XZ seq ws k ay;have aX:=Hd aC;have l1:=aH ws[k].1;clear aC x1;generalize ws[k].1=bk at *;have YH:(rz seq ws k).length≤1000:=U;clear pV;generalize rz seq ws k=hg at *;go_wp2_with fail;refine(CF.out bk U _).mono ?_;rintro e w4 ⟨rfl,q4⟩;have lH:=Hd (HQ.out.trans q4);clear q4;go_wp2_with fail;go_roundw;case rel=>exact⟨k+1,by go_num,U,by rw[aX.out];simp only[bytes_append],lH⟩
   case measure=>simp[intOf];omega
  ·have bq:¬(k:Int)<(ws.length:Int):=U
   obtain rfl:k=ws.length:=U;have hend:=s8 seq ws;have ai7:((rz seq ws ws.length).length:Int)=16+4*(ws.length:Int):=U;obtain⟨zn,hzn⟩:∃zn,zn=232-4*ws.length:=⟨_,rfl⟩;have hzi:(248:Int)-(16+4*(ws.length:Int))=(zn:Int):=U;rw[←hzn] at hend;obtain⟨i,hi,bY,bB,aW⟩:=info_parts ze;have km:=run_make (P:=prog) wr 84 5 _ _ underlying84 hi bY .i64 .i64 (zn:Int) (zn:Int) U (aac _) (by rw[aW];omega) U
   have hb:=(ci.zeros wr zn 5).back (P:=prog) 84 9 5 zn underlying84 underlying5 underlying9;rw[Of] at hb;rw[show List.replicate zn (0:UInt8)=bg zn from rfl] at hb
   rw[PM,bB,abk,show(Value.int IntKind.u8 0).cells=#[.int .u8 0] from rfl] at km
   have hq:=Q.alloc wr (.cells (madeCells #[.int .u8 0] zn) 5);have xX:(bg zn).length≤1000:=by rw[fC];omega
   have YH:(rz seq ws ws.length).length≤1000:=U;generalize wr.alloc (.cells (madeCells #[.int .u8 0] zn) 5)=w5 at *;generalize bg zn=z at *;generalize rz seq ws ws.length=hg at *;have afL:IntKind.i64.wrap ((248:Int)-(hg.length:Int))=(zn:Int):=by rw[IntWalk.i64_in _ U];omega
   have acg:(248:Int)-(hg.length:Int)=(zn:Int):=U;rw[←acg] at km;have Dy:=Hd hend;have jK:=Hd (HQ.out.trans hq);clear hend hq hzn pV bY bB aW hzi ai7 afL acg;go_wp2_with fail;go_ret;exact⟨by rw[←Dy.out];simp only[bytes_append];rfl,jK.out⟩
end
end Go.Proofs.YtonlbpljghohmaaGreatDoor
