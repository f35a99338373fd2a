/- Joined texts of one proof: what is needed of WBlkE. -/
import Derived.Test.YthcpkgfieoneeaaGreatDoorJPJrn4
import Derived.Deep.RegionHeld3
set_option linter.unusedSimpArgs false
set_option linter.unusedVariables false
set_option linter.unnecessarySimpa false
set_option maxRecDepth 100000
set_option maxHeartbeats 16000000
namespace Go.Proofs.YthcpkgfieoneeaaGreatDoor
section
open Go.RowKit
theorem crashL_snoc(keep:List Bool)(torn:Int)(cut:Nat)(p:List WrL)(w:WrL):∀(k:Nat) (l:List Bytes),DevL.crashL keep torn cut k l (p++[w])=DevL.crash1 keep torn cut (k+p.length) (DevL.crashL keep torn cut k l p) w:=by
 induction p with
 | nil=>intro k l;rfl
 | cons x p ih =>
  intro k l
  rw[List.cons_append,DevL.crashL,DevL.crashL,ih,List.length_cons]
  congr 1;omega
theorem crashL_step(keep:List Bool)(torn:Int)(cut:Nat)(l:List Bytes)(p:List WrL)(k:Nat)(h:k<p.length):DevL.crashL keep torn cut 0 l (p.take (k+1))=DevL.crash1 keep torn cut k (DevL.crashL keep torn cut 0 l (p.take k)) p[k]:=by
 rw[List.take_succ_eq_append_getElem h,crashL_snoc,List.length_take,Nat.min_eq_left (by omega),Nat.zero_add]
theorem bools_at{w:World}{F:Nat→Prop}{v:Value}{kl:List Bool}(h:SlO w F v kl.length 1 (kl.map .bool)):∃a cap,v=.slice a kl.length cap∧(∀k (hk:k<kl.length),∃kb ko,a=some ⟨kb,ko,none⟩∧kb<w.heap.size∧¬F kb∧w.cell? ⟨kb,ko+k,none⟩=some (.bool kl[k])):=by
 obtain⟨⟨_,a,cap,rfl,hc⟩,hF⟩:=h
 refine⟨a,cap,rfl,fun k hk=>?_⟩
 obtain⟨kb,ko,rfl,hcell⟩:=hc (by omega)
 obtain⟨b,off,⟨cap',e⟩,hb,hFb⟩:=hF (by omega)
 simp only[Value.slice.injEq,Option.some.injEq,Addr.mk.injEq] at e
 obtain⟨⟨rfl,_,_⟩,_⟩:=e
 exact⟨_,_,rfl,hb,hFb,hcell k _ (by simp[hk])⟩
theorem val_0(dk old:Bytes)(h1:dk.length=256)(h2:old.length=256):dk.take 0++old.drop 0=(old.drop 0).take (256-0):=by
 simp;exact(List.take_of_length_le (by omega)).symm
theorem val_256(dk old:Bytes)(h1:dk.length=256)(h2:old.length=256):dk.take 256++old.drop 256=(dk.drop 0).take (256-0):=by
 rw[List.drop_of_length_le (by omega)];simp
theorem val_c(c:Nat)(hc:c≤256)(dk old:Bytes)(h1:dk.length=256)(h2:old.length=256):dk.take c++old.drop c=(dk.drop 0).take (c-0)++(old.drop c).take (256-c):=by
 rw[List.take_of_length_le (l:=old.drop c) (by rw[List.length_drop];omega)];simp
theorem Crash_any(w:World)(F:Nat→Prop)(b:Nat)(d:DevL)(kv:Value)(kl:List Bool)(torn cut:Int)(h:DevAt w F b d)(hd:d.Ok)(hk:SlO w F kv kl.length 1 (kl.map .bool))(hp:d.p.length≤1000000)(hkl:kl.length≤1000000):
  Calls Tryz.prog 34 #[ptrV b,kv,.int .i64 torn,.int .i64 cut] w fun e w'=>e=.returned (.tuple #[])∧DevAt w' F b (d.crash kl torn cut)∧Turn F w w':=by
 obtain⟨g,cap,pv,h⟩:=h
 obtain⟨c0,c1,c2,c3,f0,f1,f2,f3⟩:=h.box.c4
 obtain⟨pa,pc,rfl,hpc⟩:=h.pcells
 obtain⟨ka,kc,rfl,hkc⟩:=bools_at hk
 have hl0:∀k,k≤d.p.length→(DevL.crashL kl torn (DevL.cutN cut) 0 d.l (d.p.take k)).length=d.l.length:=fun k _=>DevL.crashL_length _ _ _ _ _ _
 have hla:∀k,k≤d.p.length→∀s∈DevL.crashL kl torn (DevL.cutN cut) 0 d.l (d.p.take k),s.length=256:=fun k _=>DevL.crashL_all _ _ _ (DevL.cutN_le cut) _ _ _ hd.l (fun w hw=>hd.p w (List.mem_of_mem_take hw))
 have hpk:∀k (hk:k<d.p.length),d.p[k].1<d.l.length∧d.p[k].2.length=256:=fun k hk=>hd.p _ (List.getElem_mem hk)
 have hmax:=hd.max
 have hcr:d.crash kl torn cut=⟨DevL.crashL kl torn (DevL.cutN cut) 0 d.l d.p,[],-1,false⟩:=rfl
 have hstep:=crashL_step kl torn (DevL.cutN cut) d.l d.p
 rw[hcr]
 have HG:=Lib.hid h;have HL0:=Lib.hid hl0;have HLA:=Lib.hid hla;have HPK:=Lib.hid hpk;have HPC:=Lib.hid hpc;have HKC:=Lib.hid hkc;have HST:=Lib.hid hstep
 clear h hl0 hla hpk hpc hkc hk hd hcr hstep
 obtain⟨c,hcc,hcn⟩:∃c:Nat,((cut<0∧c=0)∨(cut=(c:Int)∧c≤256)∨(256<cut∧c=256))∧DevL.cutN cut=c:=⟨DevL.cutN cut,by unfold DevL.cutN;omega,rfl⟩
 rw[hcn] at HST HL0 HLA ⊢
 generalize hcl:DevL.crashL kl torn c 0 d.l=cl at *
 clear hcn
 rcases hcc with ⟨hcut,rfl⟩|⟨rfl,hc⟩|⟨hcut,rfl⟩
 all_goals
  try have hci:¬(c:Int)<0:=by omega
  try have hcj:¬(256:Int)<(c:Int):=by omega
  go_enter Tryz.func34,Tryz.ntmps34
  go_wp2_with fail
  go_loopw [19] (fun v wr=>∃k:Nat,v=.int .i64 (k:Nat)∧k≤d.p.length∧Hid (DevG wr F b g cap (.slice pa d.p.length pc) { d with l:=cl (d.p.take k) })∧Hid (Turn F w wr)) (fun v _=>d.p.length-(intOf v).toNat)
  case atStart=>exact⟨0,rfl,Nat.zero_le _,by rw[←hcl];exact HG.out,Turn.refl _ _⟩
  case round =>
   obtain⟨k,rfl,hk2,HG2,HT2⟩:=hrel
   by_cases hlt:k<d.p.length
   ·have hki:(k:Int)<(d.p.length:Int):=by omega
    obtain⟨d0,d1,_⟩:=HG2.out.box.c4
    obtain⟨pa',pc',hpv,hcc⟩:=HG2.out.pcells
    simp only[Value.slice.injEq] at hpv
    obtain⟨rfl,_,rfl⟩:=hpv
    obtain⟨g2,rfl,x1,x2⟩:=hcc k hlt
    obtain⟨hin,hdl⟩:=HPK.out k hlt
    have hll:=HL0.out k hk2
    have hini:((d.p[k].1:Nat):Int)<(d.l.length:Int):=by omega
    have hini0:(0:Int)≤((d.p[k].1:Nat):Int):=by omega
    have hol:((cl (d.p.take k)).getD d.p[k].1 []).length=256:=DevL.getD_mem_length (HLA.out k hk2) (by rw[hll];exact hin)
    have z0:wr.cell? ⟨b,0,none⟩=some (.slice (some ⟨g,0,none⟩) d.l.length cap):=by rw[←hll];exact d0
    have hqa:=Q.alloc wr (.cells #[.int .i64 (d.p[k].1:Nat),strV d.p[k].2] 102)
    obtain⟨m0,m1,_⟩:=(Blk.new wr 102 #[.int .i64 (d.p[k].1:Nat),strV d.p[k].2]).c2
    have hg3:=HG2.out.keep hqa
    have z1:=cell_stays hqa z0
    obtain⟨y3,y4⟩:=hg3.dcell d.p[k].1 (by rw[hll];exact hin)
    have hstep:=HST.out k hlt
    unfold DevL.crash1 at hstep
    have HSTP:=Lib.hid hstep;have HG3:=Lib.hid hg3;have HT3:=Lib.hid (HT2.out.q hqa)
    have hkk:∀(hkl2:k<kl.length),∃kb ko,ka=some ⟨kb,ko,none⟩∧(wr.alloc (.cells #[.int .i64 (d.p[k].1:Nat),strV d.p[k].2] 102)).cell? ⟨kb,ko+k,none⟩=some (.bool kl[k]):=fun hkl2=>by
     obtain⟨kb,ko,h1,h2,h3,h4⟩:=HKC.out k hkl2
     exact⟨kb,ko,h1,HT3.out.cell h4 h3⟩
    clear hstep hcc d0 d1 hg3 hqa c0 c1 c2 c3 f0 f1 f2 f3
    generalize hbk:d.p[k].1=bk at *
    generalize hdk:d.p[k].2=dk at *
    generalize hold:(cl (d.p.take k)).getD bk []=old at *
    go_wp2_with fail
    generalize hwo:wr.alloc (.cells #[.int .i64 (bk:Nat),strV dk] 102)=wo at *
    go_quiet (fail)
    have hcase:kl.getD k false=true∨kl.getD k false=false:=by cases kl.getD k false<;>simp
    have hlen:∀hkl2:k<kl.length,kl.getD k false=kl[k]:=fun hkl2=>by rw[List.getD_eq_getElem?_getD,List.getElem?_eq_getElem hkl2];rfl
    have hlen2:¬k<kl.length→kl.getD k false=false:=fun hkl2=>by rw[List.getD_eq_getElem?_getD,List.getElem?_eq_none (by omega)];rfl
    have hkt:k<kl.length→(k:Int)<(kl.length:Int):=fun h=>by omega
    have hkf:¬k<kl.length→¬(k:Int)<(kl.length:Int):=fun h=>by omega
    by_cases hkl2:k<kl.length
    ·obtain⟨kb,ko,rfl,k0⟩:=hkk hkl2
     have hki2:=hkt hkl2
     have hgd:=hlen hkl2
     clear hlen hlen2 hkt hkf hkk hcase
     cases hkv:kl[k] with
     | true =>
      rw[hkv] at k0 hgd
      have hfin:=HSTP.out
      rw[if_pos hgd] at hfin
      have HFIN:=Lib.hid hfin
      clear hfin hgd hkv HSTP
      go_wp2_with fail
      go_region
      all_goals
       go_wp2_with fail
       go_roundw
       case rel =>
        refine⟨k+1,by go_num,by omega,?_,?_⟩
        ·rw[HFIN.out]
         exact Lib.hid ((HG3.out.keep (by repeat (first|with_reducible exact Q.refl _|with_reducible apply Qs.dr|with_reducible refine Q.trans ?_ (Q.drewN _ _)))).lay bk dk).1
        ·exact Lib.hid ((HT3.out.q (by repeat (first|with_reducible exact Q.refl _|with_reducible apply Qs.dr|with_reducible refine Q.trans ?_ (Q.drewN _ _)))).trans (((HG3.out.keep (by repeat (first|with_reducible exact Q.refl _|with_reducible apply Qs.dr|with_reducible refine Q.trans ?_ (Q.drewN _ _)))).lay bk dk).2))
       case measure=>simp[intOf];omega
     | false =>
      rw[hkv] at k0 hgd
      have hfin:=HSTP.out
      rw[if_neg (by rw[hgd];decide)] at hfin
      have HFIN:=Lib.hid hfin
      clear hfin hgd hkv HSTP
      by_cases htn:(k:Int)=torn
      ·have htb:((k:Int)==torn)=true:=beq_iff_eq.2 htn
       have hfin:=HFIN.out
       rw[if_pos htn] at hfin
       clear HFIN
       have HFIN:=Lib.hid hfin
       clear hfin htn
       first|rw[val_0 dk old hdl hol] at HFIN|rw[val_256 dk old hdl hol] at HFIN|rw[val_c c hc dk old hdl hol] at HFIN
       go_wp2_with fail
       go_region
       all_goals
        go_wp2_with fail
        go_roundw
        case rel =>
         simp only[bytes_extract,bytes_append]
         refine⟨k+1,by go_num,by omega,?_,?_⟩
         ·rw[HFIN.out]
          exact Lib.hid ((HG3.out.keep (by repeat (first|with_reducible exact Q.refl _|with_reducible apply Qs.dr|with_reducible refine Q.trans ?_ (Q.drewN _ _)))).lay bk _).1
         ·exact Lib.hid ((HT3.out.q (by repeat (first|with_reducible exact Q.refl _|with_reducible apply Qs.dr|with_reducible refine Q.trans ?_ (Q.drewN _ _)))).trans (((HG3.out.keep (by repeat (first|with_reducible exact Q.refl _|with_reducible apply Qs.dr|with_reducible refine Q.trans ?_ (Q.drewN _ _)))).lay bk _).2))
        case measure=>simp[intOf];omega
      ·have htb:((k:Int)==torn)=false:=beq_eq_false_iff_ne.2 htn
       have hfin:=HFIN.out
       rw[if_neg htn] at hfin
       clear HFIN
       have HFIN:=Lib.hid hfin
       clear hfin htn
       go_wp2_with fail
       go_roundw
       case rel =>
        refine⟨k+1,by go_num,by omega,?_,?_⟩
        ·rw[HFIN.out]
         exact Lib.hid (HG3.out.keep (by repeat (first|with_reducible exact Q.refl _|with_reducible apply Qs.dr|with_reducible refine Q.trans ?_ (Q.drewN _ _))))
        ·exact Lib.hid (HT3.out.q (by repeat (first|with_reducible exact Q.refl _|with_reducible apply Qs.dr|with_reducible refine Q.trans ?_ (Q.drewN _ _))))
       case measure=>simp[intOf];omega
    ·have hki2:=hkf hkl2
     have hgd:=hlen2 hkl2
     clear hlen hlen2 hkt hkf hkk hcase
     have hfin:=HSTP.out
     rw[if_neg (by rw[hgd];decide)] at hfin
     have HFIN:=Lib.hid hfin
     clear hfin hgd HSTP
     by_cases htn:(k:Int)=torn
     ·have htb:((k:Int)==torn)=true:=beq_iff_eq.2 htn
      have hfin:=HFIN.out
      rw[if_pos htn] at hfin
      clear HFIN
      have HFIN:=Lib.hid hfin
      clear hfin htn
      first|rw[val_0 dk old hdl hol] at HFIN|rw[val_256 dk old hdl hol] at HFIN|rw[val_c c hc dk old hdl hol] at HFIN
      go_wp2_with fail
      go_region
      all_goals
       go_wp2_with fail
       go_roundw
       case rel =>
        simp only[bytes_extract,bytes_append]
        refine⟨k+1,by go_num,by omega,?_,?_⟩
        ·rw[HFIN.out]
         exact Lib.hid ((HG3.out.keep (by repeat (first|with_reducible exact Q.refl _|with_reducible apply Qs.dr|with_reducible refine Q.trans ?_ (Q.drewN _ _)))).lay bk _).1
        ·exact Lib.hid ((HT3.out.q (by repeat (first|with_reducible exact Q.refl _|with_reducible apply Qs.dr|with_reducible refine Q.trans ?_ (Q.drewN _ _)))).trans (((HG3.out.keep (by repeat (first|with_reducible exact Q.refl _|with_reducible apply Qs.dr|with_reducible refine Q.trans ?_ (Q.drewN _ _)))).lay bk _).2))
       case measure=>simp[intOf];omega
     ·have htb:((k:Int)==torn)=false:=beq_eq_false_iff_ne.2 htn
      have hfin:=HFIN.out
      rw[if_neg htn] at hfin
      clear HFIN
      have HFIN:=Lib.hid hfin
      clear hfin htn
      go_wp2_with fail
      go_roundw
      case rel =>
       refine⟨k+1,by go_num,by omega,?_,?_⟩
       ·rw[HFIN.out]
        exact Lib.hid (HG3.out.keep (by repeat (first|with_reducible exact Q.refl _|with_reducible apply Qs.dr|with_reducible refine Q.trans ?_ (Q.drewN _ _))))
       ·exact Lib.hid (HT3.out.q (by repeat (first|with_reducible exact Q.refl _|with_reducible apply Qs.dr|with_reducible refine Q.trans ?_ (Q.drewN _ _))))
      case measure=>simp[intOf];omega
   ·have hki:¬(k:Int)<(d.p.length:Int):=by omega
    have hkn:k=d.p.length:=by omega
    subst hkn
    have hg3:=HG2.out
    rw[List.take_length] at hg3
    have h1:=hg3.empty
    have h2:=h1.1.fuse (-1)
    have h3:=h2.1.dead false
    have HE:=Lib.hid (And.intro h3.1 (h1.2.trans (h2.2.trans h3.2)))
    obtain⟨d0,d1,d2,d3,e0,e1,e2,e3⟩:=hg3.box.c4
    obtain⟨s0,s1,s2,s3,u0,u1,u2,u3⟩:=h1.1.box.c4
    obtain⟨t0,t1,t2,t3,v0,v1,v2,v3⟩:=h2.1.box.c4
    clear h1 h2 h3 hg3
    go_wp2_with fail
    go_end0
    exact⟨rfl,⟨_,_,_,HE.out.1⟩,HT2.out.trans HE.out.2⟩
end
end Go.Proofs.YthcpkgfieoneeaaGreatDoor
