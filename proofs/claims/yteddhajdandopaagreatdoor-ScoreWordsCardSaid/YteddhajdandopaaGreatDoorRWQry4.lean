/- Joined texts of one proof: what is needed of Qry4, Qry5, QryW, Qry7, W18f, W18h, WRef17e, QryT, WWordsL. -/
import Derived.Test.YteddhajdandopaaGreatDoorRMaps
import Derived.Test.YteddhajdandopaaGreatDoorRWBin
import Derived.Test.YteddhajdandopaaGreatDoorROpen0
import Derived.Test.YteddhajdandopaaGreatDoorRWRef17a
import Derived.Test.YteddhajdandopaaGreatDoorRWPostI
import Derived.Test.YteddhajdandopaaGreatDoorRKit
import Derived.Test.YteddhajdandopaaGreatDoorRQry6
import Derived.Test.YteddhajdandopaaGreatDoorRQryS
import Derived.Test.YteddhajdandopaaGreatDoorRWSh18
import Derived.Test.YteddhajdandopaaGreatDoorRWRef15e
import Derived.Deep.RegionHeld3
import Derived.Deep.QuietTactic
import Derived.Test.YteddhajdandopaaGreatDoorRWRef11a
set_option linter.unusedSimpArgs false
set_option linter.unusedVariables false
set_option linter.unnecessarySimpa false
set_option maxRecDepth 100000
set_option maxHeartbeats 8000000
namespace Go.Proofs.YteddhajdandopaaGreatDoor
section
theorem aeE(f x y:Nat)(h:x≤y):Lib.bitLenAux f x≤Lib.bitLenAux f y:=by
 induction f generalizing x y with
 | zero=>exact Nat.le_refl _
 | succ f ih =>
  rw[Lib.bitLenAux,Lib.bitLenAux];by_cases hx:x=0
  ·rw[if_pos hx];exact Nat.zero_le _
  ·rw[if_neg hx,if_neg (by omega)]
   have:=ih (x / 2) (y / 2) (by omega)
   omega
theorem aeF{x y:Nat}(h:x≤y):Lib.bitLen x≤Lib.bitLen y:=aeE 64 x y h
theorem agY{x:Nat}(h:1≤x):1≤Lib.bitLen x:=Nat.le_trans (by decide) (aeF h)
theorem agZ(n k:Nat)(hk:1≤k)(h:k≤n):1≤yO n k:=by
 unfold yO;rw[if_neg (by omega)]
 exact agY ((Nat.le_div_iff_mul_le (by omega)).2 (by omega))
theorem UW(ds:List au)(q:QL)(h:dY):h∈searchL ds q↔∃d∈ds,kZ (wtL ds) q d=some h:=by
 rw[(sN ds q).mem_iff];unfold D6;rw[List.mem_filterMap]
theorem UY{wt:Bytes→Nat}{q:QL}{d:au}{h:dY}(e:kZ wt q d=some h):h.1=d.1∧bg q (aA d.2)=true∧h.2=jK wt q (aA d.2):=by
 unfold kZ lH at e;cases hm:bg q (aA d.2) with
 | false=>rw[hm] at e;cases e
 | true=>rw[hm] at e;cases e;exact⟨rfl,rfl,rfl⟩
theorem hits_ids(ds:List au)(q:QL):((D6 ds q).map (·.1)).Sublist (ds.map (·.1)):=by
 unfold D6;generalize wtL ds=wt;induction ds with
 | nil=>exact List.Sublist.slnil
 | cons d ds ih =>
  cases h:kZ wt q d with
  | none=>rw[List.filterMap_cons_none h];exact ih.cons _
  | some x =>
   rw[List.filterMap_cons_some h,List.map_cons,List.map_cons,(UY h).1];exact ih.cons_cons _
theorem Ob(ds:List au)(q:QL)(hn:(ds.map (·.1)).Nodup):((searchL ds q).map (·.1)).Nodup :=
 ((sN ds q).map (·.1)).nodup_iff.2 (hn.sublist (hits_ids ds q))
def l7(l:List dY)(id:Bytes):Option Nat:=(l.find? fun h=>h.1==id).map (·.2)
theorem findH_of{l:List dY}(hn:(l.map (·.1)).Nodup){h:dY}(hm:h∈l):l7 l h.1=some h.2:=by
 unfold l7;induction l with
 | nil=>simp at hm
 | cons x l ih =>
  rw[List.map_cons,List.nodup_cons] at hn;rw[List.find?_cons];rcases List.mem_cons.1 hm with rfl|hm
  ·simp
  ·have:(x.1==h.1)=false:=by
    rw[beq_eq_false_iff_ne];intro e;exact hn.1 (by rw[e];exact List.mem_map.2 ⟨h,hm,rfl⟩)
   rw[this];exact ih hn.2 hm
theorem WI{l:List dY}{id:Bytes}(h:id∉l.map (·.1)):l7 l id=none:=by
 unfold l7;rw[List.find?_eq_none.2 (fun x hx e=>h (by rw[←eq_of_beq e];exact List.mem_map.2 ⟨x,hx,rfl⟩))]
 rfl
theorem TF(ds:List au)(q:QL)(hn:(ds.map (·.1)).Nodup)(d:au)(hd:d∈ds):l7 (searchL ds q) d.1=lH (wtL ds) (aA d.2) q:=by
 cases hm:bg q (aA d.2) with
 | true =>
  have h1:=WH (wtL ds) hm;have h2:=findH_of (Ob ds q hn) ((UW ds q _).2 ⟨d,hd,h1⟩);unfold lH;rw[hm];exact h2
 | false =>
  unfold lH;rw[hm];refine WI ?_;intro h;obtain⟨x,hx,he⟩:=List.mem_map.1 h;obtain⟨e,h1,h2⟩:=(UW ds q x).1 hx;obtain⟨h3,h4,_⟩:=UY h2;have:e=d:=by
   obtain⟨i,hi⟩:=List.getElem?_of_mem h1;obtain⟨j,hj⟩:=List.getElem?_of_mem hd;have:=at_one hn hi hj (by rw[←h3,he])
   subst this;rw[hi] at hj;cases hj;rfl
  subst this;rw[hm] at h4;cases h4
def oK(r:Nat):Prop:=r<55296∨(57343<r∧r≤1114111)
theorem F8(n:Nat)(h:n<256):(n.toUInt8).toNat=n:=by
 simp[Nat.toUInt8,UInt8.toNat_ofNat'];omega
theorem enc1(r:Nat)(h:r<128):Lib.encodeRune (r:Int)=[r.toUInt8]:=by
 unfold Lib.encodeRune;rw[Lib.encodeRuneZ_one (by omega) (by omega)];simp
theorem enc2(r:Nat)(h0:128≤r)(h1:r<2048):Lib.encodeRune (r:Int)=[(192+r / 64).toUInt8,(128+r%64).toUInt8]:=by
 unfold Lib.encodeRune;rw[Lib.encodeRuneZ_two (by omega) (by omega)]
 have e1:((192:Int)+(r:Int) / 64).toNat=192+r / 64:=by omega
 have e2:((128:Int)+(r:Int)%64).toNat=128+r%64:=by omega
 simp only[List.map_cons,List.map_nil,e1,e2]
theorem enc3(r:Nat)(h:(2048≤r∧r<55296)∨(57343<r∧r≤65535)):Lib.encodeRune (r:Int)=[(224+r / 4096).toUInt8,(128+r / 64%64).toUInt8,(128+r%64).toUInt8]:=by
 unfold Lib.encodeRune;rw[Lib.encodeRuneZ_three (by omega)]
 have e1:((224:Int)+(r:Int) / 4096).toNat=224+r / 4096:=by omega
 have e2:((128:Int)+(r:Int) / 64%64).toNat=128+r / 64%64:=by omega
 have e3:((128:Int)+(r:Int)%64).toNat=128+r%64:=by omega
 simp only[List.map_cons,List.map_nil,e1,e2,e3]
theorem enc4(r:Nat)(h0:65536≤r)(h1:r≤1114111):Lib.encodeRune (r:Int)=[(240+r / 262144).toUInt8,(128+r / 4096%64).toUInt8,(128+r / 64%64).toUInt8,(128+r%64).toUInt8]:=by
 unfold Lib.encodeRune;rw[Lib.encodeRuneZ_four (by omega) (by omega)]
 have e0:((240:Int)+(r:Int) / 262144).toNat=240+r / 262144:=by omega
 have e1:((128:Int)+(r:Int) / 4096%64).toNat=128+r / 4096%64:=by omega
 have e2:((128:Int)+(r:Int) / 64%64).toNat=128+r / 64%64:=by omega
 have e3:((128:Int)+(r:Int)%64).toNat=128+r%64:=by omega
 simp only[List.map_cons,List.map_nil,e0,e1,e2,e3]
theorem Jr(s:Bytes)(h:s≠[])(r n:Nat)(hd:Lib.decodeN s.length (s.getD 0 0).toNat (s.getD 1 0).toNat (s.getD 2 0).toNat (s.getD 3 0).toNat=(r,n))(h3:¬(r=65533∧n<3)):aP s=((r:Int),n):=by
 cases s with
 | nil=>exact absurd rfl h
 | cons b s =>
  unfold aP;simp only[hd];rw[if_neg h3]
theorem rune1_enc(r:Nat)(u:Bytes)(hv:oK r):aP (Lib.encodeRune (r:Int)++u)=((r:Int),(Lib.encodeRune (r:Int)).length):=by
 unfold oK at hv;by_cases h1:r<128
 ·rw[enc1 r h1]
  refine Jr _ (by simp) r 1 ?_ (by omega)
  simp only[List.cons_append,List.nil_append,List.getD_cons_zero,F8 r (by omega)]
  unfold Lib.decodeN;rw[if_pos h1]
 ·by_cases h2:r<2048
  ·rw[enc2 r (by omega) h2]
   refine Jr _ (by simp) r 2 ?_ (by omega)
   simp only[List.cons_append,List.nil_append,List.getD_cons_zero,List.getD_cons_succ,F8 (192+r / 64) (by omega),F8 (128+r%64) (by omega),List.length_cons]
   unfold Lib.decodeN;rw[if_neg (by omega),if_pos (by omega),if_pos (by omega)]
   exact Prod.ext (by simp only;omega) rfl
  ·by_cases h3:r≤65535
   ·rw[enc3 r (by omega)]
    refine Jr _ (by simp) r 3 ?_ (by omega)
    simp only[List.cons_append,List.nil_append,List.getD_cons_zero,List.getD_cons_succ,F8 (224+r / 4096) (by omega),F8 (128+r / 64%64) (by omega),F8 (128+r%64) (by omega),List.length_cons]
    unfold Lib.decodeN;rw[if_neg (by omega),if_neg (by omega),if_pos (by omega),if_pos (by omega)]
    exact Prod.ext (by simp only;omega) rfl
   ·rw[enc4 r (by omega) (by omega)]
    refine Jr _ (by simp) r 4 ?_ (by omega)
    simp only[List.cons_append,List.nil_append,List.getD_cons_zero,List.getD_cons_succ,F8 (240+r / 262144) (by omega),F8 (128+r / 4096%64) (by omega),F8 (128+r / 64%64) (by omega),F8 (128+r%64) (by omega),List.length_cons]
    unfold Lib.decodeN;rw[if_neg (by omega),if_neg (by omega),if_neg (by omega),if_pos (by omega),if_pos (by omega)]
    exact Prod.ext (by simp only;omega) rfl
theorem yR(b:UInt8)(n:Nat)(h:b.toNat=n):n.toUInt8=b:=by subst h;simp[Nat.toUInt8]
theorem take2{s:Bytes}(h:1<s.length):s.take 2=[s.getD 0 0,s.getD 1 0]:=by
 match s,h with
 | a::b::s,_=>rfl
theorem take3{s:Bytes}(h:2<s.length):s.take 3=[s.getD 0 0,s.getD 1 0,s.getD 2 0]:=by
 match s,h with
 | a::b::c::s,_=>rfl
theorem take4{s:Bytes}(h:3<s.length):s.take 4=[s.getD 0 0,s.getD 1 0,s.getD 2 0,s.getD 3 0]:=by
 match s,h with
 | a::b::c::d::s,_=>rfl
theorem ahP(s:Bytes)(h:s≠[])(h0:0≤(aP s).1):∃r:Nat,(aP s).1=r∧oK r∧s.take (aP s).2=Lib.encodeRune (r:Int):=by
 have hl:0<s.length:=List.length_pos_iff.2 h;obtain⟨b0,g0⟩:∃b,b=(s.getD 0 0).toNat:=⟨_,rfl⟩;obtain⟨b1,g1⟩:∃b,b=(s.getD 1 0).toNat:=⟨_,rfl⟩;obtain⟨b2,g2⟩:∃b,b=(s.getD 2 0).toNat:=⟨_,rfl⟩;obtain⟨b3,g3⟩:∃b,b=(s.getD 3 0).toNat:=⟨_,rfl⟩;have l0:b0<256:=by rw[g0];exact UInt8.toNat_lt _
 have l1:b1<256:=by rw[g1];exact UInt8.toNat_lt _
 have l2:b2<256:=by rw[g2];exact UInt8.toNat_lt _
 have l3:b3<256:=by rw[g3];exact UInt8.toNat_lt _
 obtain⟨r,n,hd⟩:∃r n,Lib.decodeN s.length b0 b1 b2 b3=(r,n):=⟨_,_,rfl⟩;by_cases h3:r=65533∧n<3
 ·exfalso
  cases s with
  | nil=>exact absurd rfl h
  | cons b s =>
   unfold aP at h0;simp only[←g0,←g1,←g2,←g3,hd,if_pos h3] at h0;omega
 ·have hr:=Jr s h r n (by rw[←g0,←g1,←g2,←g3];exact hd) h3
  rw[hr];refine⟨r,rfl,?_⟩;show oK r∧s.take n=_;unfold oK;unfold Lib.decodeN at hd;split at hd
  ·cases hd
   refine⟨by omega,?_⟩
   rw[take1 hl,enc1 _ (by omega),yR _ _ g0.symm]
  ·split at hd
   ·split at hd
    ·cases hd
     refine⟨by omega,?_⟩
     rw[take2 (by omega),enc2 _ (by omega) (by omega),yR (s.getD 0 0) _ (by omega),yR (s.getD 1 0) _ (by omega)]
    ·cases hd;omega
   ·split at hd
    ·split at hd
     ·cases hd
      refine⟨by omega,?_⟩
      rw[take3 (by omega),enc3 _ (by omega),yR (s.getD 0 0) _ (by omega),yR (s.getD 1 0) _ (by omega),yR (s.getD 2 0) _ (by omega)]
     ·cases hd;omega
    ·split at hd
     ·split at hd
      ·cases hd
       refine⟨by omega,?_⟩
       rw[take4 (by omega),enc4 _ (by omega) (by omega),yR (s.getD 0 0) _ (by omega),yR (s.getD 1 0) _ (by omega),yR (s.getD 2 0) _ (by omega),yR (s.getD 3 0) _ (by omega)]
      ·cases hd;omega
     ·cases hd;omega
theorem enc_ne(r:Nat)(h:oK r):Lib.encodeRune (r:Int)≠[]:=by
 unfold oK at h;by_cases h1:r<128
 ·rw[enc1 r h1];simp
 ·by_cases h2:r<2048
  ·rw[enc2 r (by omega) h2];simp
  ·by_cases h3:r≤65535
   ·rw[enc3 r (by omega)];simp
   ·rw[enc4 r (by omega) (by omega)];simp
theorem L6(rs:List Nat)(h:∀r∈rs,oK r):chunks (encs rs)=rs.map fun r:Nat=>((r:Int),Lib.encodeRune (r:Int)):=by
 induction rs with
 | nil=>rfl
 | cons r rs ih =>
  have hr:=h r (by simp)
  have aF:=enc_ne r hr;unfold encs at ih ⊢;rw[List.flatMap_cons,kK _ (by simp[aF]),rune1_enc r _ hr]
  simp only[List.take_left,List.drop_left,List.map_cons];rw[ih (fun x hx=>h x (by simp[hx]))]
theorem afg(n:Nat)(s:Bytes):∀c∈iK n s,0≤c.1→∃r:Nat,c.1=r∧oK r∧c.2=Lib.encodeRune (r:Int):=by
 induction n generalizing s with
 | zero=>intro c hc;simp[iK] at hc
 | succ n ih =>
  intro c hc h0;rw[iK] at hc;split at hc
  ·simp at hc
  ·rename_i aF
   rcases List.mem_cons.1 hc with rfl|hc
   ·exact ahP s aF h0
   ·exact ih _ c hc h0
def Word(w:Bytes):Prop:=∃rs:List Nat,rs≠[]∧(∀r∈rs,oK r∧fG (r:Int)=true)∧w=encs rs
theorem afh(cs:List (Int×Bytes))(st:Option Bytes)(hc:∀c∈cs,0≤c.1→∃r:Nat,c.1=r∧oK r∧c.2=Lib.encodeRune (r:Int))(aI:∀w,st=some w→Word w):∀w∈dJ cs st,Word w:=by
 induction cs generalizing st with
 | nil =>
  cases st with
  | none=>simp[dJ]
  | some v=>intro w hw;simp[dJ] at hw;subst hw;exact aI _ rfl
 | cons c cs ih =>
  have hr:=fun x hx=>hc x (List.mem_cons_of_mem c hx)
  cases hk:fG c.1 with
  | false =>
   cases st with
   | none=>rw[dJ,hk];exact ih none hr (fun w e=>by cases e)
   | some v =>
    rw[dJ,hk];intro w hw;rcases List.mem_cons.1 hw with rfl|hw
    ·exact aI _ rfl
    ·exact ih none hr (fun w e=>by cases e) w hw
  | true =>
   have h0:0≤c.1:=by unfold fG at hk;simp at hk;exact hk.1
   obtain⟨r,e1,e2,e3⟩:=hc c (by simp) h0
   cases st with
   | none =>
    rw[dJ,hk];refine ih (some c.2) hr (fun w e=>?_)
    cases e;exact⟨[r],by simp,fun x hx=>by rw[List.mem_singleton] at hx;subst hx;exact⟨e2,by rw[←e1];exact hk⟩,by rw[e3];simp[encs]⟩
   | some v =>
    rw[dJ,hk];refine ih (some (v++c.2)) hr (fun w e=>?_)
    cases e;obtain⟨rs,h1,h2,h3⟩:=aI _ rfl;exact⟨rs++[r],by simp,fun x hx=>by
     rcases List.mem_append.1 hx with hx|hx
     ·exact h2 x hx
     ·rw[List.mem_singleton] at hx;subst hx;exact⟨e2,by rw[←e1];exact hk⟩,by rw[h3,e3];simp[encs]⟩
theorem TG(s:Bytes):∀w∈bT s,Word w:=afh _ none (afg _ _) (fun w e=>by cases e)
theorem ahQ(rs:List Nat)(h:∀r∈rs,fG (r:Int)=true)(v:Bytes):dJ (rs.map fun r:Nat=>((r:Int),Lib.encodeRune (r:Int))) (some v)=[v++encs rs]:=by
 induction rs generalizing v with
 | nil=>simp[dJ,encs]
 | cons r rs ih =>
  rw[List.map_cons,dJ,if_pos (h r (by simp)),ih (fun x hx=>h x (by simp[hx]))]
  simp[encs]
theorem ahR(rs:List Nat)(aF:rs≠[])(h:∀r∈rs,oK r∧fG (r:Int)=true):bT (encs rs)=[encs rs]:=by
 unfold bT;rw[L6 rs (fun r hr=>(h r hr).1)]
 cases rs with
 | nil=>exact absurd rfl aF
 | cons r rs =>
  rw[List.map_cons,dJ,if_pos (h r (by simp)).2,ahQ rs (fun x hx=>(h x (by simp[hx])).2)]
  simp[encs]
def tZ(r:Nat):Nat:=(gI (r:Int)).toNat
theorem ahS:∀n:Fin 1367,fG ((n.val:Nat):Int)=true→(0≤gI ((n.val:Nat):Int)∧gI ((n.val:Nat):Int)<55296∧fG (gI ((n.val:Nat):Int))=true∧gI (gI ((n.val:Nat):Int))=gI ((n.val:Nat):Int)):=by decide +kernel
theorem ahT(r:Int)(h:1367≤r):gI r=r:=by
 unfold gI inL;simp only[Bool.or_eq_true,Bool.and_eq_true,decide_eq_true_eq];repeat' split
 all_goals first|rfl|(exfalso;omega)
theorem KE(r:Nat)(ho:oK r)(h:fG (r:Int)=true):(gI (r:Int)=((tZ r:Nat):Int))∧oK (tZ r)∧fG ((tZ r:Nat):Int)=true∧gI ((tZ r:Nat):Int)=((tZ r:Nat):Int):=by
 by_cases hr:r<1367
 ·obtain⟨h1,h2,h3,h4⟩:=ahS ⟨r,hr⟩ h
  simp only at h1 h2 h3 h4;have e:((tZ r:Nat):Int)=gI (r:Int):=by unfold tZ;omega
  rw[e];exact⟨rfl,Or.inl (by omega),h3,h4⟩
 ·have e0:=ahT (r:Int) (by omega)
  have e:tZ r=r:=by unfold tZ;rw[e0];simp
  rw[e];exact⟨e0,ho,h,e0⟩
theorem runeOf_ok(r:Nat)(h:oK r):kL (r:Int)=r:=by
 unfold oK at h;have hv:Lib.validRune (r:Int)=true:=by unfold Lib.validRune;rw[decide_eq_true_eq];omega
 unfold kL;rw[if_neg];rintro(h1|h1|h1)
 ·omega
 ·omega
 ·rw[hv] at h1;cases h1
theorem L8(rs:List Nat)(h:∀r∈rs,oK r∧fG (r:Int)=true):bQ (encs rs)=encs (rs.map tZ):=by
 unfold bQ;rw[L6 rs (fun r hr=>(h r hr).1)]
 unfold encs;induction rs with
 | nil=>rfl
 | cons r rs ih =>
  obtain⟨h1,h2,h3,h4⟩:=KE r (h r (by simp)).1 (h r (by simp)).2
  rw[List.map_cons,List.flatMap_cons,ih (fun x hx=>h x (by simp[hx])),List.map_cons,List.flatMap_cons]
  congr 1;unfold pK;rw[if_neg (by simp),h1,runeOf_ok _ h2]
theorem U7(s:Bytes)(x:Bytes×Nat)(hx:x∈aA s):aA x.1=[(x.1,0)]∧bQ x.1=x.1:=by
 have key:∀(ws:List Bytes) (k:Nat),(∀w∈ws,Word w)→∀x∈eY ws k,∃w,Word w∧x.1=bQ w∧(bQ w).length≤40∧xR (bQ w)=false:=by
  intro ws;induction ws with
  | nil=>intro k _ x hx;simp[eY] at hx
  | cons w ws ih =>
   intro k hw x hx;rw[eY] at hx;split at hx
   ·rename_i hc
    rcases List.mem_cons.1 hx with rfl|hx
    ·exact⟨w,hw w (by simp),rfl,hc.1,hc.2⟩
    ·exact ih _ (fun v hv=>hw v (by simp[hv])) x hx
   ·exact ih _ (fun v hv=>hw v (by simp[hv])) x hx
 obtain⟨w,⟨rs,h1,h2,rfl⟩,h3,h4,h5⟩:=key _ 0 (TG s) x hx;have hf:∀r∈rs.map tZ,oK r∧fG (r:Int)=true:=by
  intro r hr;obtain⟨y,hy,rfl⟩:=List.mem_map.1 hr;have:=KE y (h2 y hy).1 (h2 y hy).2;exact⟨this.2.1,this.2.2.1⟩
 have e:=L8 rs h2;have e2:bQ (encs (rs.map tZ))=encs (rs.map tZ):=by
  rw[L8 _ hf];congr 1;rw[List.map_map];refine List.map_congr_left fun r hr=>?_
  have:=(KE r (h2 r hr).1 (h2 r hr).2).2.2.2;show tZ (tZ r)=tZ r;unfold tZ at this ⊢;omega
 rw[h3,e];rw[e] at h4 h5;refine⟨?_,e2⟩;unfold aA;rw[ahR (rs.map tZ) (by simpa using h1) hf,eY,e2,if_pos ⟨h4,h5⟩,eY]
theorem I9(ds:List au)(q:QL)(hn:(ds.map (·.1)).Nodup)(h:dY)(hm:h∈searchL ds q):∃d∈ds,h.1=d.1∧bg q (aA d.2)=true∧h.2=jK (wtL ds) q (aA d.2)∧∀p:QL,l7 (searchL ds p) h.1=lH (wtL ds) (aA d.2) p:=by
 obtain⟨d,hd,he⟩:=(UW ds q h).1 hm;obtain⟨h1,h2,h3⟩:=UY he;exact⟨d,hd,h1,h2,h3,fun p=>by rw[h1];exact TF ds p hn d hd⟩
theorem ah2(s:Bytes)(x:Bytes×Nat)(hx:x∈aA s):ay x.1=[(x.1,0)]:=by
 unfold ay;rw[(U7 s x hx).1];rfl
theorem acf(s:Bytes)(h:ay s≠[]):∃x∈aA s,(ay s).take 1=[(x.1,0)]∧((ay s).headD ([],0)).1=x.1:=by
 unfold ay kY at h ⊢;cases ht:aA s with
 | nil=>rw[ht] at h;simp at h
 | cons x r=>exact⟨x,by simp,by simp,by simp⟩
abbrev sH(s:Bytes):QL:=.mk 2 s [] [] []
abbrev Dc(s:Bytes):QL:=.mk 3 s [] [] []
abbrev KG(s:Bytes):QL:=.mk 4 s [] [] []
theorem word_has(wt:Bytes→Nat)(s t:Bytes)(l:bP)(h1:(ay s).take 1=[(t,0)])(h2:ay t=[(t,0)]):lH wt l (sH s)=lH wt l (Dc t):=by
 unfold lH;simp[bg,jK,h1,h2]
theorem afl(ds:List au)(s t:Bytes)(h1:(ay s).take 1=[(t,0)])(h2:ay t=[(t,0)]):searchL ds (sH s)=searchL ds (Dc t):=by
 unfold searchL D6;congr 1;have e:kZ (wtL ds) (sH s)=kZ (wtL ds) (Dc t):=by
  funext d;unfold kZ;rw[word_has _ s t _ h1 h2]
 rw[e]
theorem count_one(t:Bytes)(l:bP):kC [(t,0)] l=(l.filter fun y=>y.1==t).length:=by
 unfold kC;simp
theorem P6(t:Bytes)(l:bP)(ht:t≠[]):kC [(t,0)] l≤jl t l:=by
 rw[count_one];unfold jl;rw[if_neg ht];induction l with
 | nil=>exact Nat.le_refl _
 | cons y l ih =>
  by_cases e:y.1=t
  ·rw[List.filter_cons_of_pos (by simp[e]),List.filter_cons_of_pos (by simp[e]),List.length_cons,List.length_cons];omega
  ·rw[List.filter_cons_of_neg (by simp[e])]
   refine Nat.le_trans ih ?_;rw[List.filter_cons];split
   ·rw[List.length_cons];omega
   ·exact Nat.le_refl _
theorem acg(s t:Bytes):(placesIn s t).length=kC [(t,0)] (aA s):=by
 rw[count_one];unfold placesIn;induction aA s with
 | nil=>rfl
 | cons y l ih =>
  by_cases e:y.1=t
  ·rw[List.filterMap_cons_some (b:=(y.2:Int)) (by rw[if_pos e]),List.filter_cons_of_pos (by simp[e]),List.length_cons,List.length_cons,ih]
  ·rw[List.filterMap_cons_none (by rw[if_neg e]),List.filter_cons_of_neg (by simp[e]),ih]
theorem Oh(s t:Bytes)(l:bP)(h1:(ay s).take 1=[(t,0)]):bg (sH s) l=decide (0<kC [(t,0)] l):=by simp[bg,h1]
theorem word_len(ds:List au)(s t:Bytes)(h1:(ay s).take 1=[(t,0)]):(searchL ds (sH s)).length=qZ ds t:=by
 rw[nD];unfold qZ;refine congrArg List.length (List.filter_congr fun d _=>?_)
 rw[Oh s t _ h1,←acg];cases placesIn d.2 t<;>simp
theorem term_ne(s:Bytes)(x:Bytes×Nat)(hx:x∈aA s):x.1≠[]:=by
 intro e;have:=(U7 s x hx).1;rw[e] at this;cases this
theorem WM(t:Bytes)(l:bP)(hf:bQ t=t):bg (KG t) l=decide (0<jl t l):=by simp[bg,hf]
theorem ah3(wt:Bytes→Nat)(t:Bytes)(l:bP)(hf:bQ t=t):jK wt (KG t) l=jl t l:=by simp[jK,hf]
theorem aaO{α:Type}(l:List α)(p q:α→Bool)(h:∀x∈l,p x=true→q x=true):(l.filter p).length≤(l.filter q).length:=by
 induction l with
 | nil=>exact Nat.le_refl _
 | cons x l ih =>
  have:=ih (fun y hy=>h y (by simp[hy]))
  cases hp:p x with
  | true=>rw[List.filter_cons_of_pos hp,List.filter_cons_of_pos (h x (by simp) hp),List.length_cons,List.length_cons];omega
  | false =>
   rw[List.filter_cons_of_neg (by simp[hp])]
   refine Nat.le_trans this ?_;rw[List.filter_cons];split
   ·rw[List.length_cons];omega
   ·exact Nat.le_refl _
theorem aaP(ds:List au)(s t:Bytes)(h1:(ay s).take 1=[(t,0)])(hf:bQ t=t)(ht:t≠[]):(searchL ds (sH s)).length≤(searchL ds (KG t)).length:=by
 rw[nD,nD];refine aaO ds _ _ (fun d _ h=>?_)
 rw[Oh s t _ h1,decide_eq_true_eq] at h;rw[WM t _ hf,decide_eq_true_eq];have:=P6 t (aA d.2) ht;omega
theorem word_hit(ds:List au)(s t:Bytes)(h1:(ay s).take 1=[(t,0)])(hf:bQ t=t)(ht:t≠[])(hn:(ds.map (·.1)).Nodup)(h:dY)(hm:h∈searchL ds (sH s)):
  ∃n c,l7 (searchL ds (KG t)) h.1=some n∧h.2=yO ds.length (searchL ds (sH s)).length*c∧c≤n∧1≤yO ds.length (searchL ds (sH s)).length:=by
 obtain⟨d,hd,g1,g2,g3,g4⟩:=I9 ds _ hn h hm;rw[Oh s t _ h1,decide_eq_true_eq] at g2;have hb:=P6 t (aA d.2) ht;refine⟨jl t (aA d.2),kC [(t,0)] (aA d.2),?_,?_,hb,?_⟩
 ·rw[g4];unfold lH;rw[WM t _ hf,if_pos (by simp;omega),ah3 _ _ _ hf]
 ·rw[g3,word_len ds s t h1]
  simp[jK,h1,sumW,wtL]
 ·have hl:1≤(searchL ds (sH s)).length:=List.length_pos_of_mem hm
  have hle:(searchL ds (sH s)).length≤ds.length:=by rw[nD];exact List.length_filter_le _ _
  exact agZ _ _ hl hle
end
section
open Go.RowKit
theorem aiy(hs:List dY)(id:Bytes)(k:Nat)(h:k<hs.length):l7 (hs.drop k) id=if hs[k].1=id then some hs[k].2 else l7 (hs.drop (k+1)) id:=by
 rw[List.drop_eq_getElem_cons h];unfold l7;rw[List.find?_cons];by_cases e:hs[k].1=id
 ·rw[if_pos e,beq_iff_eq.2 e];rfl
 ·rw[if_neg e,beq_eq_false_iff_ne.2 e]
theorem yh(v:Value)(hs:List dY)(id:Bytes)(w:World)(hv:Hits w v hs)(hn:hs.length≤1000000000):
  Calls Tryz.prog 20 #[v,ak id] w fun e w'=>e=.returned (.tuple #[.int .i64 ((l7 hs id).getD 0:Nat),.bool (l7 hs id).isSome])∧w=w':=by
 obtain⟨a,cap,rfl,hc⟩:=hv.value;have HC:=Hd hc;clear hv hc;go_enter Tryz.func20,Tryz.ntmps20;go_wp2_with fail;go_loop [6] (fun i=>∃k:Nat,k≤hs.length∧i=.int .i64 (k:Nat)∧Hid (l7 hs id=l7 (hs.drop k) id)) (fun i=>hs.length-(intOf i).toNat)
 case atStart=>exact⟨0,by omega,rfl,rfl⟩
 case round =>
  obtain⟨k,hk,rfl,HF⟩:=hrel;by_cases hlt:k<hs.length
  ·obtain⟨b,off,rfl,bC⟩:=HC.out (by omega)
   obtain⟨c0,c1⟩:=bC k hlt;have ql:(k:Int)<(hs.length:Int):=by omega
   have gY:(0:Int)≤(k:Int):=by omega
   have aI:=aiy hs id k hlt;rw[←HF.out] at aI;clear bC;generalize hs[k]=h at *;obtain⟨t,s⟩:=h;simp only at c0 c1 aI;by_cases e:t=id
   ·subst e
    rw[if_pos rfl] at aI;have bJ:=Hd aI;clear aI;go_wp2_with fail;go_ret2;exact⟨by rw[bJ.out];rfl,rfl⟩
   ·rw[if_neg e] at aI
    have bJ:=Hd aI;have zI:(t==id)=false:=by simpa using e
    have zJ:@BEq.beq (List UInt8) instBEqOfDecidableEq t id=false:=by simpa using e
    have zK:@BEq.beq (List UInt8) List.instBEq t id=false:=by simpa using e
    clear aI e;go_wp2_with fail;go_round;case rel=>exact⟨k+1,by omega,by go_num,bJ⟩
    case measure=>simp[intOf];omega
  ·have cO:k=hs.length:=by omega
   subst cO;have hf:=HF.out;rw[List.drop_length] at hf;have HFF:=Hd hf;clear hf;go_wp2_with fail;go_ret2;exact⟨by rw[HFF.out];rfl,rfl⟩
theorem SC{w w':World}{a:Addr}{v:Value}(q:Q w w')(h:w.cell? a=some v):w'.cell? a=some v:=ah q h
theorem tok_lit(w:World)(t:Bytes)(x:Int)(p:Nat)(hx:x=(p:Int)):Sl (w.alloc (.cells #[ak t,.int .i64 x] 55)) (.slice (some ⟨w.heap.size,0,none⟩) 1 1) 1 2 (dF [(t,p)]):=by
 subst hx;refine⟨rfl,_,_,rfl,fun _=>⟨_,0,rfl,fun j u hj=>?_⟩⟩
 have hb:=Blk.new w 55 #[ak t,.int .i64 (p:Int)];match j,hj with
 | 0,hj=>cases hj;exact hb.cell 0 _ rfl
 | 1,hj=>cases hj;exact hb.cell 1 _ rfl
 | j+2,hj=>simp[dF] at hj
theorem tokVs_one(l:bP):∀u∈dF l,u.oneCell'=true:=by
 intro u hu;obtain⟨d,_,hd⟩:=List.mem_flatMap.1 hu;simp at hd;rcases hd with rfl|rfl<;>simp[Value.oneCell']
theorem tok_app(W0:World){w:World}{ops:Array Oper}{o:Oper}{a:Act}{K:Act→World→Prop}{Qx:Exit→Act→World→Prop}{E:Prop}(uf:o.guard=none)(s x:Operand)
  (ho:o.op=.call { callee:=.builtin .append,args:=#[s,x],argTypes:=#[51,51] })
  (v:Value) (n:Nat) (xs:bP) (hs:a.eval s=v) (aQ:w.ownsRow W0.heap.size 55 2 v n (dF xs)) (hq:Q W0 w)
  (vx:Value) (y:Bytes×Nat) (hx:a.eval x=vx) (hl:Sl w vx 1 2 (dF [y])) (hnm:n+1≤1000000000)
  (h:∀a2 p2 w',w'.ownsRow W0.heap.size 55 2 (.slice a2 (n+1) p2) (n+1) (dF (xs++[y]))→Q W0 w'→K (a.put o.dst (.slice a2 (n+1) p2)) w') :
  if Region.wanted o (yielded ops a.tmps)=true then Oper.wp Tryz.prog o a w K Qx else E:=by
 obtain⟨i0,hi,fJ,eU,fD⟩:=info_parts Yi;have hw:Region.wanted o (yielded ops a.tmps)=true:=by simp[Region.wanted,uf]
 rw[if_pos hw];refine zG w s x 51 ho W0.heap.size 55 i0 (.agg #[ak [],.int .i64 0]) 2 24 Tryz.underlying51 hi fJ eU fD rfl (by decide) v n (dF xs) hs aQ vx 1 (dF [y]) hx hl (tokVs_one [y]) (by unfold maxLen;omega) (by omega) hq.size ?_
 intro v' w' h2 h3 _;obtain⟨a2,p2,rfl,_⟩:=aT h2;exact h a2 p2 w' (by rw[show dF (xs++[y])=dF xs++dF [y] by simp[dF]];exact h2) (grown_below hq aQ h3 (Nat.le_refl _) hq.size)
theorem TU(s:Bytes)(w:World)(hs:s.length≤100000000):
  Calls Tryz.prog 23 #[ak s] w fun e w'=>∃v,e=.returned (.tuple #[v,.bool (!(ay s).isEmpty)])∧w'.ownsRow w.heap.size 55 2 v (ay s).length (dF (ay s))∧Q w w':=by
 have c:=Gh s w hs;have hlt:∀x∈aA s,x.2≤100000000:=fun x hx=>by have:=((qQ s).2 x hx).2.2;omega
 have vk:(aA s).length≤100000001:=by
  have h2:=sK (bT s) 0;have h3:=(uJ s).1;unfold aA;omega
 have hle:=abZ s;have xM:ay s=kY (aA s):=rfl;rw[xM];generalize aA s=l at *;have C:=Hd c;have Lc:=Hd hlt;have Lh:=Hd hle;clear c hlt hle xM;have pz:Tryz.prog.follows .mixedOrders=true:=by kernel_rfl
 go_enter Tryz.func23,Tryz.ntmps23;go_wp2_with fail;refine C.out.mono ?_;rintro e w1 ⟨v,rfl,ho,q1⟩;obtain⟨a,cap,rfl,_⟩:=aT ho;have HT:=Hd (show Toks w1 (.slice a l.length cap) l from Sl.of_owns ho)
 have aC:=Hd q1;have lJ:w.heap.size≤w1.heap.size:=q1.size;clear ho q1 C;go_wp2_with fail;go_loopw [4,6] (fun x i wr=>∃k:Nat,k≤l.length∧i=.int .i64 (k:Nat)∧Hid (wr.ownsRow w1.heap.size 55 2 x k (dF ((kY l).take k)))∧Hid (Q w1 wr)) (fun _ i _=>l.length-(intOf i).toNat)
 case atStart=>exact⟨0,by omega,rfl,World.ownsRow_nil _ _ _ _,Q.refl _⟩
 case round =>
  obtain⟨k,hk,rfl,HO,HQ⟩:=hrel;obtain⟨wo,rfl⟩:∃wo:World,wo=wr:=⟨_,rfl⟩;by_cases hlt:k<l.length
  ·obtain⟨aa,cc,hvv,bC⟩:=HT.out.value
   cases hvv;obtain⟨b,o,rfl,hc⟩:=bC (by omega)
   have t0:=ah HQ.out (hc k hlt).1;have t1:=ah HQ.out (hc k hlt).2;have z1:=ah HQ.out (hc 0 (by omega)).2
   rw[Nat.zero_mul,Nat.add_zero] at z1;have ql:(k:Int)<(l.length:Int):=by omega
   have gY:(0:Int)≤(k:Int):=by omega
   have h00:(0:Int)<(l.length:Int):=by omega
   have ayr:0<l.length:=by omega
   have OO:=Lc.out l[k] (List.getElem_mem hlt);have hle:=Lh.out k hlt;have hf:(l.headD ([],0)).2=l[0].2:=by cases l with|nil=>simp at hlt|cons a b=>rfl
   rw[hf] at hle;have bY:k<(kY l).length:=by unfold kY;rw[List.length_map];exact hlt
   have aI:(kY l).take (k+1)=(kY l).take k++[(l[k].1,l[k].2-l[0].2)]:=by
    rw[List.take_succ_eq_append_getElem bY];congr 2;simp only[kY,List.getElem_map,hf]
   generalize l[0].2=f at *;generalize l[k]=x at *;obtain⟨t,p⟩:=x;simp only at t0 t1 OO hle aI;have CQ:IntKind.i64.wrap ((p:Int)-(f:Int))=(p:Int)-(f:Int):=IntWalk.i64_in _ (by omega)
   have Dt:(p:Int)-(f:Int)=((p-f:Nat):Int):=by omega
   obtain⟨xa,xc,rfl,_⟩:=aT HO.out;have bJ:=Hd aI;have HDF:=Hd Dt;clear hc bC aI hf bY Dt;generalize (kY l).take k=xs at *;go_wp2_with fail;go_region_law
    (first
     | (refine tok_app w1 (by rfl) _ _ (by rfl) (.slice xa k xc) k xs (by rfl) (by repeat (first|with_reducible exact HO.out|with_reducible apply aX|with_reducible apply bF)) (by repeat (first|with_reducible exact HQ.out|with_reducible apply Qt.al0|with_reducible apply Qt.dr0)) _ (t,p-f) (by rfl) (by first|exact tok_lit _ _ _ _ HDF.out|exact slQ (tok_lit _ _ _ _ HDF.out) (Q.drew _)) (by omega) ?_;intro b1 c1 w2 jf q1;have H1:=Hd jf;have Q1:=Hd q1;clear jf q1))
   all_goals
    go_wp2_with fail;go_roundw;case rel=>exact⟨k+1,by omega,by go_num,by show World.ownsRow _ _ _ _ _ _ _;rw[bJ.out];exact H1.out,Q1⟩
    case measure=>simp[intOf];omega
  ·have cO:k=l.length:=by omega
   subst cO;have ho:=HO.out;have sO:(kY l).length=l.length:=by unfold kY;rw[List.length_map]
   rw[List.take_of_length_le (by omega)] at ho
   have aF:(!(kY l).isEmpty)=decide (0<l.length):=by
    cases l with
    | nil=>rfl
    | cons a b=>simp[kY]
   obtain⟨xa,xc,rfl,_⟩:=aT ho;have uZ:=Hd aF;have HOO:=Hd ho;have HLL:=Hd sO;clear ho aF sO HO;go_wp2_with fail;go_ret2;exact⟨_,by rw[uZ.out];rfl,by rw[HLL.out];exact dO HOO.out lJ,aC.out.trans HQ.out⟩
end
section
theorem aiA(rs:List Nat)(h:∀r∈rs,oK r):Lib.validD (encs rs)=true:=by
 rw[←Js _ _ (Nat.le_refl _)];unfold pW;rw[L6 rs h,List.all_eq_true];intro c hc;obtain⟨r,hr,rfl⟩:=List.mem_map.1 hc;exact decide_eq_true (by simp)
theorem aiB(s:Bytes)(x:Bytes×Nat)(hx:x∈aA s):Lib.validD x.1=true∧x.1.length≤40:=by
 have key:∀(ws:List Bytes) (k:Nat),(∀w∈ws,Word w)→∀x∈eY ws k,∃w,Word w∧x.1=bQ w∧(bQ w).length≤40:=by
  intro ws;induction ws with
  | nil=>intro k _ x hx;simp[eY] at hx
  | cons w ws ih =>
   intro k hw x hx;rw[eY] at hx;split at hx
   ·rename_i hc
    rcases List.mem_cons.1 hx with rfl|hx
    ·exact⟨w,hw w (by simp),rfl,hc.1⟩
    ·exact ih _ (fun v hv=>hw v (by simp[hv])) x hx
   ·exact ih _ (fun v hv=>hw v (by simp[hv])) x hx
 obtain⟨w,⟨rs,h1,h2,rfl⟩,h3,h4⟩:=key _ 0 (TG s) x hx;rw[h3];refine⟨?_,h4⟩;rw[L8 rs h2];refine aiA _ fun r hr=>?_
 obtain⟨y,hy,rfl⟩:=List.mem_map.1 hr;exact(KE y (h2 y hy).1 (h2 y hy).2).2.1
end
section
open Go.RowKit
theorem aiC{s:Bytes}(h:wQ (Dc s)=true):iD (sH s)=true∧dh (sH s)≤100:=by
 obtain⟨h1,_⟩:=Ee h;refine⟨?_,by simp[dh,dG]⟩
 simp only[iD,dX,uM,Bool.and_true,List.length_nil] at h1 ⊢;simpa using h1
theorem aiD{t:Bytes}(h1:Lib.validD t=true)(h2:t.length≤40):iD (Dc t)=true∧iD (KG t)=true:=by
 refine⟨?_,?_⟩
 ·simp only[iD,dX,uM,Bool.and_true,List.length_nil,h1]
  simp;omega
 ·simp only[iD,dX,uM,Bool.and_true,List.length_nil,h1]
  simp;omega
theorem SWords_walk(v:Value)(l:List uD)(s:Bytes)(W:World)(hv:Acts W v l)(AY:ActsWf l)(bY:s.length≤9223372036854775807)(hT:Tabs W)(gG:Spans W):
  Calls Tryz.prog 6 #[v,.string ⟨s.toArray⟩] W fun e w'=>e=.returned (.bool true)∧Below W.heap.size W w':=by
 have csh:=fun W' (h:Q W W')=>MP W' (hT.stays h) (gG.stays h)
 have csm:=fun W' (h:Q W W')=>BG v l W' (hv.stays h) AY.1 AY.2
 obtain⟨va,vc,EI,hvx⟩:=hv.value;subst EI;have HV:=Hd hv;have HT:=Hd hT;have nX:=Hd gG;have XV:=Hd csh;have XW:=Hd csm;clear hv hT gG csh csm AY hvx;have pz:Tryz.prog.follows .mixedOrders=true:=by kernel_rfl
 go_enter Tryz.func6,Tryz.ntmps6;go_wp2_with fail;refine(XV.out _ (Q.refl _)).mono ?_;rintro e w1 ⟨rfl,q1⟩;have aC:=Hd q1;clear q1;go_wp2_with fail;refine(XW.out _ aC.out).mono ?_;rintro e w2 ⟨rfl,rfl⟩;cases dN:qB l with
 | false =>
  go_wp2_with fail;go_ret;exact⟨rfl,aC.out⟩
 | true =>
  have su:=Hd dN;clear dN;by_cases ays:(100:Int)<(s.length:Int)
  ·have aqP:100<s.length:=by omega
   go_wp2_with fail;go_ret;exact⟨rfl,aC.out⟩
  ·have aqP:¬100<s.length:=by omega
   have axG:s.length≤100:=by omega
   have cph:=TU s w1 (by omega)
   have hpf:=fun (h:ay s≠[])=>acf s h
   generalize hPP:ay s=P at *;have Ny:=Hd cph;have HPF:=Hd hpf;have Nj:=Hd hPP;clear cph hpf hPP;go_wp2_with fail;refine Ny.out.mono ?_;rintro e w3 ⟨pv,rfl,ho,q3⟩;have gU:Toks w3 pv P:=Sl.of_owns ho;obtain⟨pa,pc,TY,O5⟩:=gU.value;subst TY;have bZ:=Hd (aC.out.trans q3);have HPX:=Hd O5;clear q3 ho gU O5 Ny;go_wp2_with fail;refine(oZ 3 s _).mono ?_;rintro e w4 ⟨rfl,q4⟩;have aqy:=Hd q4;have pF:=Hd (bZ.out.trans q4);have crt:=Gj (Dc s) _ w4 (by rw[txtQ];exact⟨bY,by rw[pV];trivial,by rw[pV];trivial,by rw[pV];trivial⟩) (yC w4 3 s)
   have CRT:=Hd crt;clear q4 crt;go_wp2_with fail;refine CRT.out.mono ?_;rintro e w5 ⟨rfl,q5⟩;have auM:=Hd (aqy.out.trans q5);have mZ:=Hd (pF.out.trans q5);clear q5 CRT pF aqy;by_cases Em:P=[]
   ·subst Em
    go_wp2_with fail;go_ret;exact⟨rfl,mZ.out⟩
   ·have xk:(!P.isEmpty)=true:=by cases P with|nil=>exact absurd rfl Em|cons a b=>rfl
    rw[xk];cases Aa:wQ (Dc s) with
    | false =>
     clear xk;go_wp2_with fail;go_ret;exact⟨rfl,mZ.out⟩
    | true =>
     obtain⟨x,rC,qE,hx3⟩:=HPF.out Em;obtain⟨uV,wX⟩:=aiB s x rC;obtain⟨qC,eU⟩:=aiC Aa;obtain⟨rD,JJ⟩:=aiD uV wX;have sV:=ah2 s x rC;have JM:=(U7 s x rC).2;have aF:=term_ne s x rC;have hP0:∀(h:0<P.length),P[0].1=x.1:=fun h=>by
      rw[←hx3];cases P with|nil=>simp at h|cons a b=>rfl
     have adI:0<P.length:=List.length_pos_iff.2 Em;generalize x.1=t at *;obtain⟨pb,po,yH,sQ⟩:=HPX.out adI;subst yH;have z0:=ah auM.out (sQ 0 adI).1;rw[hP0 adI,Nat.zero_mul,Nat.add_zero] at z0;rw[←Nj.out] at qE;have xP:=sW su.out;have cmd:=Ar _ l true w5 (HV.out.stays mZ.out) (by omega) (fun a ha=>⟨by have:=(xP.2 a ha).1;omega,fun o ho=>by have:=(xP.2 a ha).2 o ho;omega⟩) (HT.out.stays mZ.out) (nX.out.stays mZ.out)
     obtain⟨EP,gQ,sO⟩:=wV true l su.out;generalize je true l l.length=ps at *;have ayt:(0:Int)<(P.length:Int):=by omega
     have Lp:=Hd cmd;have uq:=Hd EP;have JA:=afl (aH ps) s t qE sV;have hwp:=aaP (aH ps) s t qE JM aF;have hwh:=word_hit (aH ps) s t qE JM aF EP.2;have aY:=Au (aH ps) (sH s);have Ou:=Au (aH ps) (KG t);have yX:∀h∈searchL (aH ps) (sH s),h.2≤100*xZ:=fun h hm=>by
      obtain⟨d,hd,g1,g2,g3,g4⟩:=I9 (aH ps) (sH s) EP.2 h hm;rw[g3];have xJ:=(Hr ps EP.1 d hd);have ku:d.2.length≤2000:=by unfold iT at xJ;simp only[Bool.and_eq_true,decide_eq_true_eq] at xJ;exact xJ.1.1.2
      exact Nat.le_trans (Jp (wtL (aH ps)) (wtL_le (aH ps) (by omega)) _ (lM d.2 ku).1 _ qC) (Nat.mul_le_mul_right _ eU)
     have hwn:=YS (aH ps).length (searchL (aH ps) (sH s)).length (by omega)
     have Ub:=Hd qC;have kQ:=Hd rD;have XB:=Hd JJ;clear cmd EP rC qE hx3 sV JM aF hP0 xP uV wX qC rD JJ eU Aa Em sQ;go_wp2_with fail;clear z0;refine Lp.out.mono ?_;rintro e w6 ⟨⟨lv,mv,pl,rfl,hp,wZ,sU⟩,q6⟩;obtain⟨la,lc,Qn,XZ⟩:=hp.value;subst Qn;obtain⟨ma,mc,Nz,auN⟩:=wZ.value;subst Nz;have ng:=Q.alloc w6 (.cells #[.slice la ps.length lc] 31);have bx:=(Boxed.new w6 31 (.slice la ps.length lc)).cell;have HP:=Hd hp;have fQ:=Hd (mZ.out.trans q6);have csr:=fun (W':World) (hq:Q w6 W') (q':QL) (qv':Value) (rQ:QryAt W' q' qv') (hn:iD q'=true) (hz:dh q'≤100)=>kD W' _ ps q' qv' (HP.out.stays hq) uq.out (by omega) rQ hn hz (HT.out.stays (fQ.out.trans hq)) (nX.out.stays (fQ.out.trans hq))
     have cmy:=fun (W':World) (hq:Q w6 W')=>UZ _ ps W' (HP.out.stays hq) (by omega) uq.out.1
     rw[show(uI ps).length=(aH ps).length by rw[Cj ps uq.out.2]] at cmy
     generalize (aH ps).length=nl0 at *;generalize um:searchL (aH ps) (sH s)=xs at *;generalize uU:searchL (aH ps) (KG t)=zs at *;generalize hWW:yO nl0 xs.length=wg at *;have cwt:=fun (W':World)=>Ah (nl0:Int) (xs.length:Int) W' (by omega) (by omega) (by omega) (by omega)
     rw[Ti,hWW] at cwt;have Nr:=Hd um;have HYS:=Hd JA.symm;have HZS:=Hd uU;have HWH:=Hd hwh;have auO:=Hd yX;have E5:=Hd csr;have CMY:=Hd cmy;have CWT:=Hd cwt;have RD:=Hd ng;clear hp wZ sU q6 XZ auN um JA uU hwh yX csr cmy cwt hWW Lp ng;have b7:=bx;have ny:=RD;clear bx RD;go_wp2_with fail;generalize rO:w6.alloc (.cells #[.slice la ps.length lc] 31)=w7 at *;generalize w6.heap.size=X at *;clear rO;have KK:=Hd (Q.refl w7);go_region_held3 (fun w'=>w'.cell? ⟨X,0,none⟩=some (.slice la ps.length lc)) (first|exact b7|exact SC (by repeat (first|with_reducible exact KK.out|with_reducible apply Qt.al0|with_reducible apply Qt.dr0)) b7)
      (first
       | (go_at_call 21;refine(oZ 2 s _).mono ?_;rintro e wx ⟨rfl,qx⟩;have s':Q w7 wx:=Q.trans (by repeat (first|with_reducible exact KK.out|with_reducible apply Qt.al0|with_reducible apply Qt.dr0)) qx;clear KK;have KK:=Hd s';clear s' qx)
       | (go_at_call 14;refine(E5.out _ (ny.out.trans (by repeat (first|with_reducible exact KK.out|with_reducible apply Qt.al0|with_reducible apply Qt.dr0))) (sH s) _ (yC _ _ _) Ub.out (by simp[dh,dG])).mono ?_;rintro e w8 ⟨sv7,rfl,hh,qy⟩;rw[Nr.out] at hh;obtain⟨sa7,sc7,hsv,Ld⟩:=hh.value;clear Ld;subst hsv;have HA:=Hd hh;have s':Q w7 w8:=Q.trans (by repeat (first|with_reducible exact KK.out|with_reducible apply Qt.al0|with_reducible apply Qt.dr0)) qy;clear KK;have KK:=Hd s';clear s' qy hh))
     have xC:Q w7 _:=(by repeat (first|with_reducible exact KK.out|with_reducible apply Qt.al0|with_reducible apply Qt.dr0))
     have b8:=ah xC b7;have wu:=Hd (ny.out.trans xC);have HA8:=Hd HA.out;clear xC b7 KK ny;go_wp2_with fail;have KK:=Hd (Q.refl w8);go_region_held3 (fun w'=>w'.cell? ⟨X,0,none⟩=some (.slice la ps.length lc)) (first|exact b8|exact SC (by repeat (first|with_reducible exact KK.out|with_reducible apply Qt.al0|with_reducible apply Qt.dr0)) b8)
      (first
       | (go_at_call 21;refine(oZ 3 t _).mono ?_;rintro e wx ⟨rfl,qx⟩;have s':Q w8 wx:=Q.trans (by repeat (first|with_reducible exact KK.out|with_reducible apply Qt.al0|with_reducible apply Qt.dr0)) qx;clear KK;have KK:=Hd s';clear s' qx)
       | (go_at_call 14;refine(E5.out _ (wu.out.trans (by repeat (first|with_reducible exact KK.out|with_reducible apply Qt.al0|with_reducible apply Qt.dr0))) (Dc t) _ (yC _ _ _) kQ.out (by simp[dh,dG])).mono ?_;rintro e w9 ⟨sv8,rfl,hh,qy⟩;rw[HYS.out] at hh;obtain⟨sa8,sc8,hsv,Ld⟩:=hh.value;clear Ld;subst hsv;have HB:=Hd hh;have s':Q w8 w9:=Q.trans (by repeat (first|with_reducible exact KK.out|with_reducible apply Qt.al0|with_reducible apply Qt.dr0)) qy;clear KK;have KK:=Hd s';clear s' qy hh))
     have xC:Q w8 _:=(by repeat (first|with_reducible exact KK.out|with_reducible apply Qt.al0|with_reducible apply Qt.dr0))
     have b9:=ah xC b8;have xK:=Hd (wu.out.trans xC);have XY:=Hd (HA8.out.stays xC);have KW:=Hd HB.out;clear xC b8 KK wu;go_wp2_with fail;have KK:=Hd (Q.refl w9);go_region_held3 (fun w'=>w'.cell? ⟨X,0,none⟩=some (.slice la ps.length lc)) (first|exact b9|exact SC (by repeat (first|with_reducible exact KK.out|with_reducible apply Qt.al0|with_reducible apply Qt.dr0)) b9)
      (first
       | (go_at_call 21;refine(oZ 4 t _).mono ?_;rintro e wx ⟨rfl,qx⟩;have s':Q w9 wx:=Q.trans (by repeat (first|with_reducible exact KK.out|with_reducible apply Qt.al0|with_reducible apply Qt.dr0)) qx;clear KK;have KK:=Hd s';clear s' qx)
       | (go_at_call 14;refine(E5.out _ (xK.out.trans (by repeat (first|with_reducible exact KK.out|with_reducible apply Qt.al0|with_reducible apply Qt.dr0))) (KG t) _ (yC _ _ _) XB.out (by simp[dh,dG])).mono ?_;rintro e w10 ⟨sv9,rfl,hh,qy⟩;rw[HZS.out] at hh;obtain⟨sa9,sc9,hsv,Ld⟩:=hh.value;clear Ld;subst hsv;have HC:=Hd hh;have s':Q w9 w10:=Q.trans (by repeat (first|with_reducible exact KK.out|with_reducible apply Qt.al0|with_reducible apply Qt.dr0)) qy;clear KK;have KK:=Hd s';clear s' qy hh))
     have xC:Q w9 _:=(by repeat (first|with_reducible exact KK.out|with_reducible apply Qt.al0|with_reducible apply Qt.dr0))
     have b10:=ah xC b9;have EK:=Hd (xK.out.trans xC);have Ig:=Hd (XY.out.stays xC);have FM:=Hd (KW.out.stays xC);have aej:=Hd HC.out;clear xC b9 KK xK;go_wp2_with fail;refine(xE _ _ xs w10 Ig.out FM.out (by omega)).mono ?_
     rintro e w11 ⟨rfl,q11⟩;have b11:=ah q11 b10;have aeh:=Hd (EK.out.trans q11);have aqz:=Hd (Ig.out.stays q11);have aqA:=Hd (aej.out.stays q11);clear q11 b10 EK Ig FM aej;have hle:¬(zs.length:Int)<(xs.length:Int):=by omega
     have EH:¬zs.length<xs.length:=by omega
     go_wp2_with fail;refine(CMY.out _ aeh.out).mono ?_;rintro e w12 ⟨rfl,q12⟩;have ad2:=Hd (aeh.out.trans q12);have auP:=Hd (aqz.out.stays q12);have auQ:=Hd (aqA.out.stays q12);clear q12 b11 aeh aqz aqA;go_wp2_with fail;refine(CWT.out _).mono ?_;rintro e w13 ⟨rfl,rfl⟩;obtain⟨xa,xc,hxa,Ey⟩:=auP.out.value;cases hxa;have OM:=Hd Ey;have HQE:=Hd (fQ.out.trans ad2.out);clear Ey ad2;go_wp2_with fail;go_loopw [17,18,19] (fun i _ _ wr=>∃j:Nat,j≤xs.length∧i=.int .i64 (j:Nat)∧Hid (Q w12 wr)) (fun i _ _ _=>xs.length-(intOf i).toNat)
     case atStart=>exact⟨0,by omega,rfl,Q.refl _⟩
     case round =>
      obtain⟨j,hj,rfl,HQj⟩:=hrel;obtain⟨wo,rfl⟩:∃wo:World,wo=wr:=⟨_,rfl⟩;by_cases hlt:j<xs.length
      ·obtain⟨b,off,rfl,bC⟩:=OM.out (by omega)
       obtain⟨c0,c1⟩:=bC j hlt;have d0:=ah HQj.out c0;have d1:=ah HQj.out c1;obtain⟨n1,c,e1,e2,e3,e4⟩:=HWH.out xs[j] (List.getElem_mem hlt);have zS:=auO.out xs[j] (List.getElem_mem hlt);have hlB:100*xZ≤1000000000000:=by decide
       have cf:=yh _ zs xs[j].1 wo (auQ.out.stays HQj.out) (by omega)
       rw[e1] at cf;have ql:(j:Int)<(xs.length:Int):=by omega
       have gY:(0:Int)≤(j:Int):=by omega
       have ayu:((xs[j].2:Nat):Int).tmod (wg:Int)=0:=by rw[e2,Int.natCast_mul];exact Int.mul_tmod_right _ _
       have ayv:((xs[j].2:Nat):Int).tdiv (wg:Int)=(c:Int):=by rw[e2,Int.natCast_mul];exact Int.mul_tdiv_cancel_left _ (by omega)
       have hcb:c≤1000000000000:=by
        have:c≤wg*c:=Nat.le_mul_of_pos_left _ e4;omega
       have CF:=Hd cf;generalize xs[j].1=id at *;generalize xs[j].2=sc at *;have ZJ:((wg:Int)==0)=false:=beq_eq_false_iff_ne.2 (by omega)
       have lJ:¬(wg:Int)=0:=by omega
       have nV:¬wg=0:=by omega
       have Dw:¬(n1:Int)<(c:Int):=by omega
       have ayw:¬n1<c:=by omega
       have La:IntKind.i64.wrap (c:Int)=(c:Int):=IntWalk.i64_in _ (by omega)
       clear cf bC c0 c1 e1 e2 e3 e4 hlB zS hcb;go_wp2_with fail;refine CF.out.mono ?_;rintro e w14 ⟨rfl,rfl⟩;go_wp2_with fail;go_roundw;case rel=>exact⟨j+1,by omega,by go_num,HQj⟩
       case measure=>simp[intOf];omega
      ·have vU:¬(j:Int)<(xs.length:Int):=by omega
       go_wp2_with fail;go_ret;exact⟨rfl,HQE.out.trans HQj.out⟩
end
end Go.Proofs.YteddhajdandopaaGreatDoor
