/- Joined: BitH to BitR -/
import Derived.Test.YtbkahhebmpehnaaGreatDoorCXBitA
set_option linter.all false
set_option maxRecDepth 100000
set_option maxHeartbeats 8000000
namespace Go.Proofs.YtbkahhebmpehnaaGreatDoor
open Go.Proofs.Tryz
section
open Go.RowKit
theorem xr(l:List UInt8)(n:Int)(w:World)(hs:l.length≤1099511627776)(h1 : -9223372036854775808≤n)(h2:n≤9223372036854775807):
  Calls prog 181 #[.string ⟨l.toArray⟩,.int .i64 n] w fun e w'=>∃v,e=.returned v∧Below w.heap.size w w' ∧
   w'.ownsRow w.heap.size 87 2 v (aK l (fA l n)).length (ext (aK l (fA l n))):=by
 have hN:=vX l n;have xH:l.length≤9223372036854775807 / 8:=U;have h4:l.length≤9223372036854775807:=U;have hf:=fun w=>KW l n w xH h1 h2
 generalize fA l n=N at *;have HF:=Hd hf;clear hf;obtain⟨i0,hi,bY,bB,aW⟩:=info_parts aaj;go_enter func181,ntmps181;go_wp2_with fail;refine(HF.out _).mono ?_;rintro e w' ⟨rfl,rfl⟩;go_wp2_with fail;go_loopw [7,5,8] (fun i t _ wr=>∃k:Nat,k≤N+1∧i=.int .i64 k∧wr.ownsRow w.heap.size 87 2 t (aK l (min k N)).length (ext (aK l (min k N)))∧Below w.heap.size w wr ∧
   Hid (k=0∨N<k∨bit l (k-1)=true)) (fun i _ _ _=>N+1-(intOf i).toNat)
 case atStart=>exact⟨0,U,rfl,by rw[show min 0 N=0 by omega];exact World.ownsRow_nil _ _ _ _,Below.refl _ _,Or.inl rfl⟩
 case round =>
  obtain⟨i,qG,rfl,aF,hb,HI⟩:=hrel;obtain⟨wo,rfl⟩:∃wo:World,wo=wr:=⟨_,rfl⟩;by_cases ay:i<N
  ·have hI:i=0∨bit l (i-1)=true:=by
    rcases HI with h|h|h
    ·exact Or.inl h
    ·omega
    ·exact Or.inr h
   rw[show min i N=i by omega] at aF
   have hlen:=oC l i;have HI:=Hd hI;have HO:=Hd aF;have HB:=Hd hb;clear hI aF hb;go_wp2_with fail;go_loop [8] (fun v=>∃k:Nat,i≤k∧k≤N∧v=.int .i64 k∧Hid (∀j,i≤j→j<k→bit l j=false)) (fun v=>N-(intOf v).toNat)
   case atStart=>exact⟨i,U,U,rfl,fun j h1 h2=>U⟩
   case round =>
    obtain⟨k,Bv,kW,rfl,HJ⟩:=hrel;by_cases RD:k<N
    ·cases eu:bit l k with
     | false =>
      have rR:=Hd eu;clear eu;go_wp2_with fail;refine(sW l k _ h4 U).mono ?_;rintro e w' ⟨rfl,rfl⟩;rw[gQ,rR.out];go_wp2_with fail;go_round;case rel=>exact⟨k+1,U,U,by go_num,fun j h1 h2=>by
       by_cases e:j=k
       ·subst e;exact rR.out
       ·exact HJ.out j h1 U⟩
      case measure=>simp[intOf];omega
     | true =>
      have rR:=Hd eu;clear eu;go_wp2_with fail;refine(sW l k _ h4 U).mono ?_;rintro e w' ⟨rfl,rfl⟩;rw[gQ,rR.out];have hex:k=N∨bit l k=true:=Or.inr rR.out;have qB:Hid (k+1=0∨N<k+1∨bit l (k+1-1)=true):=Or.inr (Or.inr rR.out);by_cases Vu:i<k
      ·have hm:=Nf l i k N HI.out Vu U HJ.out hex
       generalize aK l i=rs at *;have HM:=Hd hm;clear hm hex;have aF:=HO.out;go_wp2_with (at_builtin;go_must (refine bG wo ρ _ _ 46 ρ w.heap.size 87 _ i0 (.agg #[.int .i64 0,.int .i64 0]) 2 16 underlying46 hi bY bB aW rfl Z Z _ _ _ ρ aF #[.int .i64 i,.int .i64 ((k:Int)-i)] ρ rfl ?c1 ?c2 HB.out.size ?_))
       case c1=>simp[Value.oneCell']
       case c2=>omega
       intro g cap w1 uM eT pU nR M4;have hb1:=HB.out.grown eT HB.out.size (fun k hk=>by have:=(aF.lt k hk).1;omega)
       have e:ext rs++(#[Value.int .i64 i,.int .i64 ((k:Int)-i)]:Array Value).toList=ext (rs++[(i,k-i)]):=by
        rw[jP];simp[ext];omega
       rw[e] at uM;clear aF pU eT HB e;have HB:=Hd hb1;have HO1:=Hd uM;clear hb1 uM;go_wp2_with fail;go_roundw;case rel=>exact⟨k+1,U,by go_num,by rw[HM.out,Δ];exact HO1.out,HB.out,qB⟩
       case measure=>simp[intOf];omega
      ·have hm:=Ng l k N U hex
       have bq:k=i:=U;subst bq;have HM:=Hd hm;clear hm hex;go_wp2_with fail;go_roundw;case rel=>exact⟨k+1,U,by go_num,by rw[HM.out];exact HO.out,HB.out,qB⟩
       case measure=>simp[intOf];omega
    ·have RD:k=N:=U
     have hex:k=N∨bit l k=true:=Or.inl RD;have qB:Hid (k+1=0∨N<k+1∨bit l (k+1-1)=true):=Or.inr (Or.inl U);have HKN:=Hd RD;clear RD;have RD:¬k<N:=by rw[HKN.out];omega
     by_cases Vu:i<k
     ·have hm:=Nf l i k N HI.out Vu U HJ.out hex
      generalize aK l i=rs at *;have HM:=Hd hm;clear hm hex;have aF:=HO.out;go_wp2_with (at_builtin;go_must (refine bG wo ρ _ _ 46 ρ w.heap.size 87 _ i0 (.agg #[.int .i64 0,.int .i64 0]) 2 16 underlying46 hi bY bB aW rfl Z Z _ _ _ ρ aF #[.int .i64 i,.int .i64 ((k:Int)-i)] ρ rfl ?c1 ?c2 HB.out.size ?_))
      case c1=>simp[Value.oneCell']
      case c2=>omega
      intro g cap w1 uM eT pU nR M4;have hb1:=HB.out.grown eT HB.out.size (fun k hk=>by have:=(aF.lt k hk).1;omega)
      have e:ext rs++(#[Value.int .i64 i,.int .i64 ((k:Int)-i)]:Array Value).toList=ext (rs++[(i,k-i)]):=by
       rw[jP];simp[ext];omega
      rw[e] at uM;clear aF pU eT HB e;have HB:=Hd hb1;have HO1:=Hd uM;clear hb1 uM;go_wp2_with fail;go_roundw;case rel=>exact⟨k+1,U,by go_num,by rw[HM.out,Δ];exact HO1.out,HB.out,qB⟩
      case measure=>simp[intOf];omega
     ·have hm:=Ng l k N U hex
      have bq:k=i:=U;subst bq;have HM:=Hd hm;clear hm hex;go_wp2_with fail;go_roundw;case rel=>exact⟨k+1,U,by go_num,by rw[HM.out];exact HO.out,HB.out,qB⟩
      case measure=>simp[intOf];omega
  ·go_wp2_with fail
   go_ret;rw[show min i N=N by omega] at aF
   exact⟨_,rfl,hb,aF⟩
theorem Ou{w:World}{B g cap:Nat}{rs:List (Nat×Nat)}(h:w.ownsRow B 87 2 (.slice (some ⟨g,0,none⟩) rs.length cap) rs.length (ext rs)):
  ∀k (h:k<rs.length),w.cell? ⟨g,k*2,none⟩=some (.int .i64 rs[k].1)∧w.cell? ⟨g,k*2+1,none⟩=some (.int .i64 rs[k].2):=by
 intro k hk;have:=FZ rs k hk;rw[UX 2 k] at this;rw[h.cellAt _ U,h.cellAt _ U];exact this
theorem A7(l:List UInt8)(n c:Int)(w:World)(hs:l.length≤1099511627776)(h1 : -9223372036854775808≤n)(h2:n≤9223372036854775807):
  Calls prog 107 #[.string ⟨l.toArray⟩,.int .i64 n,.int .i64 c] w fun e w'=>e=.returned (.tuple #[.int .i64 (qh l n c).1,.bool (qh l n c).2])∧Below w.heap.size w w':=by
 have hf:=xr l n w hs h1 h2;have hlen:(aK l (fA l n)).length≤8796093022208:=LS (oC _ _) (by have:=vX l n;omega)
 have hR:qh l n c=if c<1 then(0,false) else i7 (((aK l (fA l n)).find? (fun r=>decide (c.toNat≤r.2))).map (·.1)):=by
  unfold qh;split
  ·rfl
  ·rw[JS l c.toNat U]
 generalize aK l (fA l n)=rs at *;generalize qh l n c=R at *;have HF:=Hd hf;have HR:=Hd hR;clear hf hR;go_enter func107,ntmps107;go_wp2_with fail;refine HF.out.mono ?_;rintro e w1 ⟨v,rfl,hb,aF⟩;obtain⟨a,cap,rfl,acs⟩:=aY aF;have HB:=Hd hb;have HS:=Hd acs;have HO:=Hd aF;clear hb acs aF;go_wp2_with fail;go_loop [9] (fun i=>∃k:Nat,k≤rs.length∧i=.int .i64 k∧Hid (∀j (_:j<rs.length),j<k→¬c.toNat≤rs[j].2)) (fun i=>rs.length-(intOf i).toNat)
 case atStart=>exact⟨0,U,rfl,fun j _ h=>U⟩
 case round =>
  obtain⟨k,hk,rfl,HK⟩:=hrel;by_cases hc:0<c
  ·by_cases ay:k<rs.length
   ·obtain⟨g,rfl⟩:=HS.out U
    have aP:=Ou HO.out k ay;obtain⟨cO,dI⟩:=aP;by_cases hge:c≤(rs[k].2:Int)
    ·have hr:R=((rs[k].1:Int),true):=by
      rw[HR.out,η U];rw[show rs.find? (fun r=>decide (c.toNat≤r.2))=some rs[k] from ?_]
      ·rfl
      ·rw[List.find?_eq_some_iff_getElem]
       refine⟨by simp;omega,k,ay,rfl,fun j hj=>?_⟩
       have:=HK.out j U hj;simp;omega
     have ow:=Hd hr;clear hr;go_wp2_with fail;go_ret2;exact⟨by rw[ow.out];rfl,HB.out⟩
    ·go_wp2_with fail
     go_round;case rel=>exact⟨k+1,U,by go_num,fun j hj h=>by
       by_cases e:j=k
       ·subst e;omega
       ·exact HK.out j hj U⟩
     case measure=>simp[intOf];omega
   ·have hr:R=(0,false):=by
     rw[HR.out,η U];rw[show rs.find? (fun r=>decide (c.toNat≤r.2))=none from ?_]
     ·rfl
     ·rw[List.find?_eq_none]
      intro r hr;obtain⟨j,hj,rfl⟩:=PH hr;have:=HK.out j hj U;simp;omega
    have ow:=Hd hr;clear hr;go_wp2_with fail;go_ret2;exact⟨by rw[ow.out];rfl,HB.out⟩
  ·have hr:R=(0,false):=by rw[HR.out,Φ U]
   have ow:=Hd hr;clear hr;by_cases ay:k<rs.length;all_goals
    go_wp2_with fail;go_ret2;exact⟨by rw[ow.out];rfl,HB.out⟩
end
end Go.Proofs.YtbkahhebmpehnaaGreatDoor
