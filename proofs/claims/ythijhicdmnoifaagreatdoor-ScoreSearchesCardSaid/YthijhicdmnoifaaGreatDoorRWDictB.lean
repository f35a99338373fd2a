/- Joined texts of one proof. -/
import Derived.Test.YthijhicdmnoifaaGreatDoorRKit
import Derived.RangeFuncNested
import Derived.RangeFuncBound
import Derived.OwnWalkIn
import Derived.TacticsInMore
import Derived.LoopNIn
import Derived.LoopIn
import Derived.Shelf.Abstract
set_option linter.unusedSimpArgs false
set_option linter.unusedVariables false
set_option linter.unnecessarySimpa false
set_option maxRecDepth 100000
set_option maxHeartbeats 8000000
namespace Go.Proofs.YthijhicdmnoifaaGreatDoor
section
open Go.RowKit
theorem tinfoE:(Tryz.prog.info? 231).map (fun i=>(i.zero,i.size,i.bytes))=some (some (.agg #[ak [],ak []]),2,32):=by kernel_rfl
theorem SL(f:Bytes)(g:List aN)(w:World)(hn:g.length≤1000000)(hl:∀e∈g,e.1.length≤1000000∧e.2.length≤1000000000)(hb:(dU [] g).length≤9223372036854775807):
  Calls Tryz.prog 174 #[.agg #[ak f,ak (dU [] g),.int .i64 g.length]] w fun e w'=>∃v,e=.returned (.agg #[v,ak [],.bool true])∧w'.ownsRow w.heap.size 231 2 v g.length (dV g)∧Q w w':=by
 obtain⟨i0,hi,fJ,eU,fD⟩:=info_parts tinfoE;have HL:=Hd hl;clear hl;obtain⟨bs,Ei⟩:∃bs,bs=dU [] g:=⟨_,rfl⟩;rw[←Ei] at hb ⊢;have Na:=Hd Ei;clear Ei;go_enter Tryz.func174,Tryz.ntmps174;go_wp2_with fail;have Xa:=(Blk.new (w.alloc (.cells #[ak f,ak bs,.int .i64 g.length] 265)) 268 #[.slice none 0 0,.string ⟨#[]⟩,.bool false]);rw[World.size_alloc] at Xa;have iR:=(Q.alloc w (.cells #[ak f,ak bs,.int .i64 g.length] 265)).trans (Q.alloc _ (.cells #[.slice none 0 0,.string ⟨#[]⟩,.bool false] 268));have Va:((w.alloc (.cells #[ak f,ak bs,.int .i64 g.length] 265)).alloc (.cells #[.slice none 0 0,.string ⟨#[]⟩,.bool false] 268)).heap.size=w.heap.size+2:=by simp
 generalize (w.alloc (.cells #[ak f,ak bs,.int .i64 g.length] 265)).alloc (.cells #[.slice none 0 0,.string ⟨#[]⟩,.bool false] 268)=W0 at *;have Ca:=Hd Xa;have jk:=Hd iR;clear Xa iR;go_loopw [3,4,5,11] (fun lv sv la i wr=>∃(k:Nat) (last r:Bytes),k≤g.length∧i=.int .i64 k∧sv=ak r∧la=ak last∧Hid (r=dU last (g.drop k))∧last.length≤1000000∧r.length≤9223372036854775807 ∧
  Hid (wr.ownsRow (w.heap.size+2) 231 2 lv k (dV (g.take k)))∧Hid (Blk wr (w.heap.size+1) 268 #[.slice none 0 0,.string ⟨#[]⟩,.bool false])∧Hid (Q w wr)∧w.heap.size+2≤wr.heap.size) (fun _ _ _ i _=>g.length-(intOf i).toNat)
 case atStart=>exact⟨0,[],bs,by omega,rfl,rfl,rfl,Na.out,by simp,hb,Hd (by simpa using World.ownsRow_nil _ _ _ _),Ca.out,jk.out,by omega⟩
 case round =>
  obtain⟨k,last,r,hk,rfl,rfl,rfl,HR,sO,BI,HO,HB,HQ,aY⟩:=hrel;obtain⟨wo,rfl⟩:∃wo:World,wo=wr:=⟨_,rfl⟩;by_cases hlt:k<g.length
  ·have bV:r=bI (dW last g[k].1)++(aM (g[k].1.drop (dW last g[k].1))++(aM g[k].2++dU g[k].1 (g.drop (k+1)))):=by
    rw[HR.out,List.drop_eq_getElem_cons hlt,dU]
   have hlg:=HL.out _ (List.getElem_mem hlt);have TY:dV (g.take (k+1))=dV (g.take k)++[ak g[k].1,ak g[k].2]:=by
    rw[List.take_succ_eq_append_getElem hlt];exact yA _ _
   generalize g[k]=e at *;obtain⟨t,x⟩:=e;simp only at bV hlg TY;have al5:(dU t (g.drop (k+1))).length≤9223372036854775807:=by
    have:=congrArg List.length bV;simp only[List.length_append] at this;omega
   obtain⟨r2,jG⟩:∃r2,r2=dU t (g.drop (k+1)):=⟨_,rfl⟩;rw[←jG] at bV al5;have c:=fun w=>DEntry_ok r last (t,x) r2 w BI sO hlg bV
   have C:=Hd c;have BK:=Hd jG;have HPV:=Hd TY;clear c jG bV TY;go_wp2_with fail;refine(C.out _).mono ?_;rintro e w1 ⟨rfl,q1⟩;have jf:=ownsRow_below HO.out q1;have dS:=HB.out.stays q1;have jS:=HQ.out.trans q1;have dN:=q1.size;have jH:=Hd jf;have jT:=Hd dS;have aC:=Hd jS;clear jf dS jS q1;have aQ:=jH.out.alloc (.cells #[ak t,ak x,ak r2,.bool true] 294);have Ef:w.heap.size+2≤(w1.alloc (.cells #[ak t,ak x,ak r2,.bool true] 294)).heap.size:=by simp;omega
   go_wp2_with (at_builtin;go_must (refine cZ (w1.alloc (.cells #[ak t,ak x,ak r2,.bool true] 294)) (by rfl) _ _ 229 (by rfl) (w.heap.size+2) 231 _ i0 (.agg #[ak [],ak []]) 2 32 Tryz.underlying229 hi fJ eU fD rfl (by decide) (by decide) _ _ _ (by rfl) aQ #[ak t,ak x] (by simp[Act.eval]) rfl ?c1 ?c2 Ef ?_))
   case c1=>simp[Value.oneCell']
   case c2=>omega
   intro gg cap w4 nS oO lN FI l9;have uV:=(Blk.new w1 294 #[ak t,ak x,ak r2,.bool true]);have aF:∀{kk:Nat} {tt:TypeId} {cc:Array Value},Blk (w1.alloc (.cells #[ak t,ak x,ak r2,.bool true] 294)) kk tt cc→tt≠231→Blk w4 kk tt cc:=fun {kk tt cc} dS h1=>by
    refine(oO.block kk dS.lt (fun e=>?_)).trans dS
    obtain⟨cs,hc⟩:=jE aQ kk e.symm;rw[show _=_ from dS] at hc
    injection hc with h3;injection h3 with _ h3 _;exact h1 h3
   have b4:=aF (jT.out.alloc _) (by decide)
   have v4:=aF uV (by decide)
   have q4:Q w w4:=aL (aC.out.trans (Q.alloc _ _)) aQ oO (by omega) (by simp;omega)
   rw[show dV (g.take k)++(#[ak t,ak x]:Array Value).toList=dV (g.take (k+1)) from HPV.out.symm] at nS
   have ZK:=Hd nS;have lQ:=Hd b4;have pF:=Hd q4;obtain⟨c0,c1,c2,c3,_⟩:=v4.c4;have vN:w.heap.size+2≤w4.heap.size:=Nat.le_trans Ef oO.size;clear aQ nS oO lN uV b4 v4 q4 aF jH jT aC HO HB HQ;go_wp2_with fail;go_quiet (fail);go_wp2_with fail;go_roundw;case rel=>exact⟨k+1,t,r2,by omega,by go_num,rfl,rfl,BK.out,hlg.1,al5,ownsRow_below ZK.out (Q.drewN _ _),lQ.out.stays (Q.drewN _ _),pF.out.trans (Q.drewN _ _),vN⟩
   case measure=>simp[intOf];omega
  ·have jL:k=g.length:=by omega
   have hr:r=[]:=by rw[HR.out,List.drop_eq_nil_of_le (by omega)];rfl
   subst jL;subst hr;have ho:=HO.out;rw[List.take_length] at ho;have Ua:=Hd ho;clear ho HR;obtain⟨a,cap,rfl,_⟩:=aT Ua.out;obtain⟨c0,c1,c2,f0,f1,f2⟩:=HB.out.c3;go_wp2_with fail;obtain⟨s0,s1,s2⟩:=HB.out.s3;refine bodyPost_ret (v:=.agg #[.slice a g.length cap,ak [],.bool true]) ?_ rfl ?_
   ·simp[results,Tryz.results174,go_sem,s0,s1,s2]
   refine⟨_,rfl,?_,((HQ.out.setCell (by simp) _).setCell (by simp) _).setCell (by simp) _⟩
   exact dO (ownsRow_setCell_below (ownsRow_setCell_below (ownsRow_setCell_below Ua.out (by simp) _) (by simp) _) (by simp) _) (by omega)
theorem tinfoP:(Tryz.prog.info? 265).map (fun i=>(i.zero,i.size,i.bytes))=some (some (.agg #[ak [],ak [],.int .i64 0]),3,40):=by kernel_rfl
theorem tinfoI:(Tryz.prog.info? 3).map (fun i=>(i.zero,i.size,i.bytes))=some (some (.int .i64 0),1,8):=by kernel_rfl
def ig(ps:List y7):List Value:=ps.flatMap fun p=>[ak p.1,ak p.2.1,.int .i64 p.2.2]
def sZ(ps:List y7):List Value:=ps.flatMap fun p=>[ak p.1,ak [],.int .i64 p.2.2]
def Bo(ps:List y7):List Value:=ps.map fun p=>.int .i64 (p.2.1.length:Nat)
theorem DParts_ok(l:List aN)(w:World)(hn:l.length≤1048576)(oP:∀p∈dA l,p.1.length≤1000000∧p.2.1.length≤1073741824)(hb:(kV l).length≤9223372036854775807):
  Calls Tryz.prog 201 #[.string ⟨(kV l).toArray⟩] w fun e w'=>∃v,e=.returned (.agg #[v,ak [],.bool true])∧w'.ownsRow w.heap.size 265 3 v (dA l).length (ig (dA l))∧Q w w':=by
 obtain⟨ip,BN,vG,vH,vI⟩:=info_parts tinfoP;obtain⟨ii,KN,ak1,ak2,ak3⟩:=info_parts tinfoI;have c:=fun w=>NH (kV l) l.length (Fa (dA l)++yU (dA l)) 1048576 w hb ⟨by omega,Ls l⟩ hn (by omega)
 have gQ:=Ho l;have ZL:=agK l;have aD:(Fa (dA l)++yU (dA l)).length≤9223372036854775807:=by
  have:=congrArg List.length (Ls l);rw[List.length_append] at this;omega
 generalize dA l=ps at *;generalize kV l=bs at *;obtain⟨rs,wY⟩:∃rs,rs=Fa ps++yU ps:=⟨_,rfl⟩;rw[←wY] at c aD;have C:=Hd c;have Cg:=Hd ZL;have qD:=Hd oP;have Xb:=Hd wY;clear c ZL oP wY;go_enter Tryz.func201,Tryz.ntmps201;go_wp2_with fail;refine(C.out _).mono ?_;rintro e w1 ⟨rfl,q1⟩;have b1:=((Blk.new w _ _).stays q1).alloc (.cells #[.int .i64 l.length,.string ⟨rs.toArray⟩,.bool true] 300);have n1:=Blk.new w1 300 #[.int .i64 l.length,.string ⟨rs.toArray⟩,.bool true];have q1':=((Q.alloc w _).trans q1).trans (Q.alloc w1 (.cells #[.int .i64 l.length,.string ⟨rs.toArray⟩,.bool true] 300));have hB:w.heap.size<w1.heap.size:=by have:=q1.size;simp at this;omega
 have Va:(w1.alloc (.cells #[.int .i64 l.length,.string ⟨rs.toArray⟩,.bool true] 300)).heap.size=w1.heap.size+1:=by simp
 have Ej:=Hd b1;have Qm:=Hd n1;have Jw:=Hd q1';clear b1 n1 q1 q1';go_wp2_with fail;generalize w1.alloc (.cells #[.int .i64 l.length,.string ⟨rs.toArray⟩,.bool true] 300)=W0 at *;generalize w1.heap.size=N at *;clear C w1;go_loopw [0,4,5,6] (fun sv lv zv i wr=>∃(m:Nat) (r:Bytes),m≤ps.length∧i=.int .i64 (16*m:Nat)∧sv=.string ⟨r.toArray⟩∧Hid (r=Fa (ps.drop m)++yU ps)∧r.length≤9223372036854775807 ∧
  Hid (wr.ownsRow (N+1) 265 3 lv m (sZ (ps.take m)))∧Hid (wr.ownsRow (N+1) 3 1 zv m (Bo (ps.take m)))∧Hid (Blk wr w.heap.size 291 #[.slice none 0 0,.string ⟨#[]⟩,.bool false]) ∧
  Hid (Blk wr N 300 #[.int .i64 l.length,.string ⟨rs.toArray⟩,.bool true])∧Hid (Q w wr)∧N+1≤wr.heap.size) (fun _ _ _ i _=>l.length+16-(intOf i).toNat)
 case atStart=>exact⟨0,rs,by omega,rfl,rfl,Xb.out,aD,Hd (by simpa[sZ] using World.ownsRow_nil _ _ _ _),Hd (by simpa[Bo] using World.ownsRow_nil _ _ _ _),Ej.out,Qm.out,Jw.out,by omega⟩
 case round =>
  obtain⟨m,r,hm,rfl,rfl,HR,BI,HO,HZ,HB,HN,HQ,aY⟩:=hrel;obtain⟨wo,rfl⟩:∃wo:World,wo=wr:=⟨_,rfl⟩;obtain⟨nc0,nc1,nc2,_⟩:=HN.out.c3;by_cases hlt:m<ps.length
  ·have bV:r=aM ps[m].1++(bI ps[m].2.1.length++(Fa (ps.drop (m+1))++yU ps)):=by
    rw[HR.out,List.drop_eq_getElem_cons hlt];simp only[Fa,List.flatMap_cons,List.append_assoc]
   have hlp:=qD.out _ (List.getElem_mem hlt);have wZ:ps[m]=uH ((l.drop (16*m)).take 16)∧16*m<l.length:=by
    have h1:=Cg.out m;rw[List.getElem?_eq_getElem hlt] at h1;split at h1
    ·exact⟨Option.some.inj h1,by assumption⟩
    ·cases h1
   have Xc:(ps[m].2.2:Int)=min 16 ((l.length:Int)-(16*m:Nat)):=by
    rw[wZ.1];simp only[uH,List.length_take,List.length_drop];omega
   have Em:sZ (ps.take (m+1))=sZ (ps.take m)++[ak ps[m].1,ak [],.int .i64 ps[m].2.2]:=by
    rw[List.take_succ_eq_append_getElem hlt];unfold sZ;rw[List.flatMap_append];rfl
   have fJ:Bo (ps.take (m+1))=Bo (ps.take m)++[.int .i64 (ps[m].2.1.length:Nat)]:=by
    unfold Bo;rw[List.take_succ_eq_append_getElem hlt,List.map_append];rfl
   have CJ:=wZ.2;clear wZ;generalize ps[m]=p at *;obtain⟨t,x,k⟩:=p;simp only at bV hlp Xc Em fJ;generalize rE:x.length=xl at *;obtain⟨r1,qU⟩:∃r1,r1=bI xl++(Fa (ps.drop (m+1))++yU ps):=⟨_,rfl⟩;obtain⟨r2,jG⟩:∃r2,r2=Fa (ps.drop (m+1))++yU ps:=⟨_,rfl⟩;rw[←qU] at bV;rw[←jG] at qU;have anw:r1.length≤9223372036854775807:=by have:=congrArg List.length bV;rw[List.length_append] at this;omega
   have Yv:r2.length≤9223372036854775807:=by have:=congrArg List.length qU;rw[List.length_append] at this;omega
   have c:=fun w=>Uz r t r1 w BI ⟨by omega,bV⟩
   have c2:=fun w=>NH r1 xl r2 1073741824 w anw ⟨by omega,qU⟩ hlp.2 (by omega)
   have C:=Hd c;have C2:=Hd c2;have BK:=Hd jG;have HP0:=Hd Em;have HZ0:=Hd fJ;clear c c2 qU jG bV Em fJ rE;go_wp2_with fail;refine(C.out _).mono ?_;rintro e w1 ⟨rfl,q1⟩;have t1:=Blk.new w1 303 #[ak t,ak r1,.bool true];have jf:=(ownsRow_below HO.out q1).alloc (.cells #[ak t,ak r1,.bool true] 303);have eU:=(ownsRow_below HZ.out q1).alloc (.cells #[ak t,ak r1,.bool true] 303);have dS:=(HB.out.stays q1).alloc (.cells #[ak t,ak r1,.bool true] 303);have qC:=(HN.out.stays q1).alloc (.cells #[ak t,ak r1,.bool true] 303);have jS:=(HQ.out.trans q1).trans (Q.alloc w1 (.cells #[ak t,ak r1,.bool true] 303));have dN:=q1.size;obtain⟨tc0,tc1,tc2,_⟩:=t1.c3;have mR:=Hd t1;have jH:=Hd jf;have F3:=Hd eU;have jT:=Hd dS;have Ub:=Hd qC;have aC:=Hd jS;clear t1 jf eU dS qC jS q1 HO HZ HB HN HQ;go_wp2_with fail;refine(C2.out _).mono ?_;rintro e w2 ⟨rfl,q2⟩;have z2:=Blk.new w2 300 #[.int .i64 xl,ak r2,.bool true];have t2:=(mR.out.stays q2).alloc (.cells #[.int .i64 xl,ak r2,.bool true] 300);have jI:=(ownsRow_below jH.out q2).alloc (.cells #[.int .i64 xl,ak r2,.bool true] 300);have fD:=(ownsRow_below F3.out q2).alloc (.cells #[.int .i64 xl,ak r2,.bool true] 300);have aO:=(jT.out.stays q2).alloc (.cells #[.int .i64 xl,ak r2,.bool true] 300);have rD:=(Ub.out.stays q2).alloc (.cells #[.int .i64 xl,ak r2,.bool true] 300);have gJ:=(aC.out.trans q2).trans (Q.alloc w2 (.cells #[.int .i64 xl,ak r2,.bool true] 300));have kE:=q2.size;have kP:N+1≤(w2.alloc (.cells #[.int .i64 xl,ak r2,.bool true] 300)).heap.size:=by simp at kE ⊢;omega
   obtain⟨tc0,tc1,tc2,_⟩:=t2.c3;obtain⟨zc0,zc1,zc2,_⟩:=z2.c3;obtain⟨nc0,nc1,nc2,_⟩:=rD.c3;have Nb:=Hd t2;have HZB:=Hd z2;have rF:=Hd jI;have RB:=Hd fD;have eG:=Hd aO;have kQ:=Hd rD;have aS:=Hd gJ;clear t2 z2 jI fD aO rD gJ q2 jH F3 jT Ub aC;have jL:((k:Int)=16∧¬((l.length:Int)-16*(m:Int)<16))∨((k:Int)=(l.length:Int)-16*(m:Int)∧(l.length:Int)-16*(m:Int)<16):=by omega
   rcases jL with ⟨vO,mP⟩|⟨vO,mP⟩;all_goals
    have vP:=Hd vO;clear vO Xc;have aQ:=rF.out;go_wp2_with (at_builtin;refine cZ (w2.alloc (.cells #[.int .i64 xl,ak r2,.bool true] 300)) (by rfl) _ _ 262 (by rfl) (N+1) 265 _ ip (.agg #[ak [],ak [],.int .i64 0]) 3 40 Tryz.underlying262 BN vG vH vI rfl (by decide) (by decide) _ _ _ (by rfl) aQ #[ak t,ak [],.int .i64 _] (by simp[Act.eval]) rfl ?c1 ?c2 kP ?_)
    case c1=>simp[Value.oneCell']
    case c2=>omega
    intro gg cap w4 nS oO lN FI l9;have rz:=iW RB.out aQ oO (by decide)
    have t4:=lW Nb.out aQ oO (by decide)
    have z4:=lW HZB.out aQ oO (by decide)
    have b4:=lW eG.out aQ oO (by decide)
    have n4:=lW kQ.out aQ oO (by decide)
    have q4:Q w w4:=aL aS.out aQ oO (by omega) (by omega)
    have vN:N+1≤w4.heap.size:=Nat.le_trans kP oO.size;have he:sZ (ps.take m)++(#[ak t,.string ⟨#[]⟩,.int .i64 k]:Array Value).toList=sZ (ps.take (m+1)):=HP0.out.symm;obtain⟨tc0,tc1,tc2,_⟩:=t4.c3;obtain⟨zc0,zc1,zc2,_⟩:=z4.c3;have vS:w4.ownsRow (N+1) 265 3 (.slice (some ⟨gg,0,none⟩) (m+1) cap) (m+1) (sZ (ps.take (m+1))):=by rw[←he,vP.out];exact nS
    have hzz:=rz;have ZK:=Hd vS;have lQ:=Hd b4;have Xd:=Hd n4;have pF:=Hd q4;clear aQ nS lN t4 z4 b4 n4 q4 he vS rF RB Nb HZB eG kQ aS oO;go_wp2_with (at_builtin;refine cZ w4 (by rfl) _ _ 199 (by rfl) (N+1) 3 _ ii (.int .i64 0) 1 8 Tryz.underlying199 KN ak1 ak2 ak3 rfl (by decide) (by decide) _ _ _ (by rfl) hzz #[.int .i64 xl] (by simp[Act.eval]) rfl ?c1 ?c2 vN ?_)
    case c1=>simp[Value.oneCell']
    case c2=>omega
    intro g5 cap5 w5 aiK uh ak4 axJ axK;have o5:=iW ZK.out rz uh (by decide)
    have b5:=lW lQ.out rz uh (by decide)
    have n5:=lW Xd.out rz uh (by decide)
    have q5:Q w w5:=aL pF.out rz uh (by omega) (by omega)
    have he:Bo (ps.take m)++(#[.int .i64 xl]:Array Value).toList=Bo (ps.take (m+1)):=HZ0.out.symm;rw[he] at aiK;have Nc:N+1≤w5.heap.size:=Nat.le_trans vN uh.size;have EM:=Hd o5;have lS:=Hd b5;have HN5:=Hd n5;have mZ:=Hd q5;have rA:=Hd aiK;clear o5 b5 n5 q5 he aiK uh ak4 rz hzz ZK lQ Xd pF;go_wp2_with fail;go_roundw;case rel=>exact⟨m+1,r2,by omega,by go_num,rfl,BK.out,Yv,EM,rA,lS,HN5,mZ,Nc⟩
    case measure=>simp[intOf];omega
  ·have vT:m=ps.length:=by omega
   subst vT;have vU:¬16*ps.length<l.length:=by omega
   have hr:r=yU ps:=by rw[HR.out,List.drop_eq_nil_of_le (by omega)];rfl
   have ho:=HO.out;have hz:=HZ.out;rw[List.take_length] at ho hz;have HRA:=Hd hr;have ZM:=Hd ho;have HZP:=Hd hz;obtain⟨zb,zcap,hzv,uU⟩:=aT hz;obtain⟨lb,lcap,Qn,rR⟩:=aT ho;subst hzv;subst Qn;clear hr ho hz HR HO HZ;go_wp2_with fail;have y9:wo.ownsRow (N+1) 265 3 (.slice lb ps.length lcap) ps.length (ig (ps.take 0)++sZ (ps.drop 0)):=by simpa[ig] using ZM.out
   have aqE:=Hd y9;clear y9 ZM;go_loopw [0,55] (fun sv i wr=>∃(k:Nat) (r':Bytes),k≤ps.length∧i=.int .i64 k∧sv=.string ⟨r'.toArray⟩∧Hid (r'=yU (ps.drop k))∧r'.length≤9223372036854775807 ∧
    Hid (wr.ownsRow (N+1) 265 3 (.slice lb ps.length lcap) ps.length (ig (ps.take k)++sZ (ps.drop k)))∧Hid (wr.ownsRow (N+1) 3 1 (.slice zb ps.length zcap) ps.length (Bo ps)) ∧
    Hid (Blk wr w.heap.size 291 #[.slice none 0 0,.string ⟨#[]⟩,.bool false])∧Hid (Blk wr N 300 #[.int .i64 l.length,.string ⟨rs.toArray⟩,.bool true])∧Hid (Q w wr)∧N+1≤wr.heap.size) (fun _ i _=>ps.length-(intOf i).toNat)
   case atStart=>exact⟨0,r,by omega,rfl,rfl,HRA.out,BI,aqE.out,HZP.out,HB.out,HN.out,HQ.out,aY⟩
   case round =>
    obtain⟨k,r',hk,rfl,rfl,HR,axL,HO,HZ,HB,HN,HQ,aY⟩:=hrel;obtain⟨wq,rfl⟩:∃wq:World,wq=wr:=⟨_,rfl⟩;by_cases hlt:k<ps.length
    ·obtain⟨g,rfl⟩:=rR (by omega)
     obtain⟨gz,rfl⟩:=uU (by omega)
     have bV:r'=ps[k].2.1++yU (ps.drop (k+1)):=by
      rw[HR.out,List.drop_eq_getElem_cons hlt];simp only[yU,List.flatMap_cons]
     have hlp:=qD.out _ (List.getElem_mem hlt);have fJ:(Bo ps)[k]?=some (.int .i64 (ps[k].2.1.length:Nat)):=by
      unfold Bo;rw[List.getElem?_map,List.getElem?_eq_getElem hlt];rfl
     have hzc:wq.cell? ⟨gz,k,none⟩=some (.int .i64 (ps[k].2.1.length:Nat)):=by
      rw[HZ.out.cellAt k (by omega)];exact fJ
     have Qo:(ig (ps.take k)++sZ (ps.drop k)).set (k*3+1) (ak ps[k].2.1)=ig (ps.take (k+1))++sZ (ps.drop (k+1)):=by
      have lC:(ig (ps.take k)).length=k*3:=by
       have:∀qs:List y7,(ig qs).length=qs.length*3:=by
        intro qs;induction qs with
        | nil=>rfl
        | cons q qs ih=>rw[show ig (q::qs)=[ak q.1,ak q.2.1,.int .i64 q.2.2]++ig qs from rfl,List.length_append,ih];simp;omega
       rw[this,List.length_take,Nat.min_eq_left (by omega)]
      have e1:sZ (ps.drop k)=ak ps[k].1::ak []::.int .i64 ps[k].2.2::sZ (ps.drop (k+1)):=by
       rw[List.drop_eq_getElem_cons hlt];rfl
      have e2:ig (ps.take (k+1))=ig (ps.take k)++[ak ps[k].1,ak ps[k].2.1,.int .i64 ps[k].2.2]:=by
       rw[List.take_succ_eq_append_getElem hlt];unfold ig;rw[List.flatMap_append];rfl
      rw[e1,e2,List.set_append_right _ _ (by omega),lC,show k*3+1-k*3=1 by omega]
      simp
     have lD:k*3+1<ps.length*3:=by omega
     have sQ:∃u,wq.cell? ⟨g,k*3+1,none⟩=some u:=by
      rw[HO.out.cellAt _ lD,List.getElem?_eq_getElem (by rw[HO.out.1];exact lD)]
      exact⟨_,rfl⟩
     obtain⟨u,sQ⟩:=sQ;have Ch:wq.frozen? ⟨g,k*3+1,none⟩=false:=HO.out.frozenAt _;have aI:=HO.out.stored (k*3+1) (ak ps[k].2.1);rw[Qo] at aI;have bJ:=Hd aI;generalize ps[k].2.1=x at *;have RL:r'.length=x.length+(yU (ps.drop (k+1))).length:=by rw[bV,List.length_append]
     obtain⟨r2,jG⟩:∃r2,r2=yU (ps.drop (k+1)):=⟨_,rfl⟩;rw[←jG] at bV RL;have rC:({ data:=r'.toArray }:ByteArray).extract 0 x.length=⟨x.toArray⟩:=by rw[og,bV,List.take_left]
     have qE:({ data:=r'.toArray }:ByteArray).extract x.length r'.length=⟨r2.toArray⟩:=by rw[iV,bV,List.drop_left]
     have BK:=Hd jG;clear fJ Qo aI jG bV HR;rw[RL] at qE;go_wp2_with fail;go_region;have dN:=bJ.out;have qd:=Q.drew (wq.setCell ⟨g,k*3+1,none⟩ (ak x));have o5:=ownsRow_below dN.1 qd;have z5:=ownsRow_below (iW HZ.out HO.out dN.2 (by decide)) qd
     have b5:=(lW HB.out HO.out dN.2 (by decide)).stays qd
     have n5:=(lW HN.out HO.out dN.2 (by decide)).stays qd
     have q4:Q w (wq.setCell ⟨g,k*3+1,none⟩ (ak x)):=aL HQ.out HO.out dN.2 (by omega) (by omega)
     have q5:=q4.trans qd;have Nc:N+1≤(wq.setCell ⟨g,k*3+1,none⟩ (ak x)).drew.heap.size:=by simp;omega
     have EM:=Hd o5;have rA:=Hd z5;have lS:=Hd b5;have HN5:=Hd n5;have mZ:=Hd q5;clear dN qd o5 z5 b5 n5 q4 q5 HO HZ HB HN HQ;go_wp2_with fail;go_roundw;case rel=>exact⟨k+1,r2,by omega,by go_num,rfl,BK.out,by omega,EM,rA,lS,HN5,mZ,Nc⟩
     case measure=>simp[intOf];omega
    ·have jL:k=ps.length:=by omega
     subst jL;have hr:r'=[]:=by rw[HR.out,List.drop_eq_nil_of_le (by omega)];rfl
     subst hr;have ho:=HO.out;rw[List.take_length,List.drop_length,show sZ []=[] from rfl,List.append_nil] at ho
     have Ua:=Hd ho;obtain⟨nc0,nc1,nc2,_⟩:=HN.out.c3;obtain⟨c0,c1,c2,f0,f1,f2⟩:=HB.out.c3;have HBZ:=HB;clear ho HR HO HZ HN HB;go_wp2_with fail;obtain⟨s0,s1,s2⟩:=HBZ.out.s3;refine bodyPost_ret (v:=.agg #[.slice lb ps.length lcap,ak [],.bool true]) ?_ rfl ?_
     ·simp[results,Tryz.results201,go_sem,s0,s1,s2];omega
     refine⟨_,rfl,?_,((HQ.out.setCell (by simp) _).setCell (by simp) _).setCell (by simp) _⟩
     exact dO (ownsRow_setCell_below (ownsRow_setCell_below (ownsRow_setCell_below Ua.out (by simp;omega) _) (by simp;omega) _) (by simp;omega) _) (by omega)
structure Itk (own:Nat→Prop) (lo:Nat) (A B:World):Prop where
 os:B.os=A.os
 tape:B.tape=A.tape
 output:B.output=A.output
 size:A.heap.size≤B.heap.size
 low:∀k,k<lo→k<A.heap.size→¬own k→B.heap[k]?=A.heap[k]?
 cells:∀(k:Nat) (o:Obj),A.heap[k]?=some o→o.isCells=true→¬own k→B.heap[k]?=some o
theorem Itk.refl(own:Nat→Prop)(lo:Nat)(A:World):Itk own lo A A:=⟨rfl,rfl,rfl,Nat.le_refl _,fun _ _ _ _=>rfl,fun _ _ h _ _=>h⟩
theorem Itk.trans{own:Nat→Prop}{lo:Nat}{A B C:World}(h:Itk own lo A B)(k:Itk own lo B C):Itk own lo A C :=
 ⟨k.os.trans h.os,k.tape.trans h.tape,k.output.trans h.output,Nat.le_trans h.size k.size,fun i h1 h2 h3=>(k.low i h1 (Nat.lt_of_lt_of_le h2 h.size) h3).trans (h.low i h1 h2 h3),
  fun i o h1 h2 h3=>k.cells i o (h.cells i o h1 h2 h3) h2 h3⟩
theorem Itk.mono{own own':Nat→Prop}{lo lo':Nat}{A B:World}(h:Itk own lo A B)(ho:∀k,own k→own' k)(hl:lo'≤lo):Itk own' lo' A B :=
 ⟨h.os,h.tape,h.output,h.size,fun k h1 h2 h3=>h.low k (by omega) h2 (fun e=>h3 (ho k e)),fun k o h1 h2 h3=>h.cells k o h1 h2 (fun e=>h3 (ho k e))⟩
theorem aU{A:World}{k:Nat}{o:Obj}(h:A.heap[k]?=some o):k<A.heap.size:=(Array.getElem?_eq_some_iff.1 h).1
theorem Itk.of_q{own:Nat→Prop}{lo:Nat}{A B:World}(h:Q A B):Itk own lo A B :=
 ⟨h.os,h.tape,h.output,h.size,fun k _ h2 _=>h.block k h2,fun k o h1 _ _=>(h.block k (aU h1)).trans h1⟩
theorem Itk.put{own:Nat→Prop}{lo:Nat}{A:World}{l:Nat}{o:Obj}(o':Obj)(h:A.heap[l]?=some o)(hc:o.isCells=false)(hl:lo≤l):Itk own lo A (A.putObj l o') :=
 ⟨rfl,rfl,rfl,by simp,fun k h1 _ _=>World.putObj_heap_other (by omega),fun k o2 h1 h2 _=>(World.putObj_heap_other (fun e=>by subst e;rw[h] at h1;cases h1;rw[hc] at h2;cases h2)).trans h1⟩
theorem Itk.iterAt{own:Nat→Prop}{lo:Nat}{A:World}{l:Nat}{s:ByteArray}{p:Nat}(p':Nat)(h:A.heap[l]?=some (.stringIter s p))(hl:lo≤l):Itk own lo A (A.iterAt l s p') :=
 Itk.put (.stringIter s p') h rfl hl
theorem Itk.setOwn{own:Nat→Prop}{lo:Nat}(A:World){b:Nat}(h:own b)(p:Addr)(hp:p.block=b)(v:Value):Itk own lo A (A.setCell p v) :=
 ⟨rfl,rfl,rfl,(KeepsWalks.setCell A p v).size,fun k _ _ h3=>Below.heap_setCell _ _ _ _ (fun e=>h3 (by rw[e,hp];exact h)),fun k o h1 _ h3=>(Below.heap_setCell _ _ _ _ (fun e=>h3 (by rw[e,hp];exact h))).trans h1⟩
theorem Itk.get{own:Nat→Prop}{lo:Nat}{A B:World}(h:Itk own lo A B){k:Nat}{cs:Array Value}{e:TypeId}{fz:Nat×Nat}(hk:A.heap[k]?=some (.cells cs e fz))(ho:¬own k):B.heap[k]?=some (.cells cs e fz):=h.cells k _ hk rfl ho
theorem Itk.cell{own:Nat→Prop}{lo:Nat}{A B:World}(h:Itk own lo A B){a:Addr}{v:Value}(hc:A.cell? a=some v)(ho:¬own a.block):B.cell? a=some v:=by
 obtain⟨o,h1,h2⟩:=cells_of_cell hc;exact(World.cell?_of_block ((h.cells _ o h1 h2 ho).trans h1.symm)).trans hc
theorem Itk.boxed{own:Nat→Prop}{lo:Nat}{A B:World}(h:Itk own lo A B){b:Nat}{t:TypeId}{v:Value}(hb:Boxed A b t v)(ho:¬own b):Boxed B b t v:=h.get hb ho
theorem Itk.below{own:Nat→Prop}{lo n:Nat}{w A B:World}(h:Itk own lo A B)(hw:Below n w A)(hn:n≤lo)(hs:n≤A.heap.size)(ho:∀k,own k→n≤k):Below n w B :=
 hw.trans ⟨h.os,h.tape,h.output,h.size,fun k hk=>h.low k (by omega) (by omega) (fun e=>by have:=ho k e;omega)⟩
theorem Itk.owns{own:Nat→Prop}{lo:Nat}{A B:World}(h:Itk own lo A B){base:Nat}{e:TypeId}{size:Nat}{v:Value}{n:Nat}{xs:List Value}(hr:A.ownsRow base e size v n xs)(ho:∀g,v.ownBlock=some g→¬own g):B.ownsRow base e size v n xs:=by
 obtain⟨h1,h2⟩:=hr;refine⟨h1,?_⟩;rcases h2 with h2|⟨g,cap,cur,rfl,hb,hg,rest⟩
 ·exact .inl h2
 ·exact .inr ⟨g,cap,cur,rfl,hb,h.get hg (ho g rfl),rest⟩
structure Bk (own:Nat→Prop) (n₀:Nat) (A B:World):Prop where
 below:Below n₀ A B
 own:∀k,own k→k<A.heap.size→B.heap[k]?=A.heap[k]?
 walks:∀(k:Nat) (o:Obj),A.heap[k]?=some o→o.isWalk=true→B.heap[k]?=some o
theorem Bk.refl(own:Nat→Prop)(n₀:Nat)(A:World):Bk own n₀ A A:=⟨Below.refl _ _,fun _ _ _=>rfl,fun _ _ h _=>h⟩
theorem Bk.trans{own:Nat→Prop}{n₀:Nat}{A B C:World}(h:Bk own n₀ A B)(k:Bk own n₀ B C):Bk own n₀ A C :=
 ⟨h.below.trans k.below,fun i h1 h2=>(k.own i h1 (Nat.lt_of_lt_of_le h2 h.below.size)).trans (h.own i h1 h2),fun i o h1 h2=>k.walks i o (h.walks i o h1 h2) h2⟩
theorem Bk.of_q{own:Nat→Prop}{n₀:Nat}{A B:World}(h:Q A B)(hn:n₀≤A.heap.size):Bk own n₀ A B :=
 ⟨Below.mono h hn,fun k _ h2=>h.block k h2,fun k o h1 _=>(h.block k (aU h1)).trans h1⟩
theorem Bk.mono{own own':Nat→Prop}{n₀ n₁:Nat}{A B:World}(h:Bk own n₀ A B)(ho:∀k,own' k→own k)(hn:n₁≤n₀):Bk own' n₁ A B :=
 ⟨h.below.mono hn,fun k h1 h2=>h.own k (ho k h1) h2,h.walks⟩
theorem Bk.put{own:Nat→Prop}{n₀:Nat}{A:World}{l:Nat}{o:Obj}(o':Obj)(h:A.heap[l]?=some o)(hc:o.isWalk=false)(hl:n₀≤l)(ho:¬own l):Bk own n₀ A (A.putObj l o') :=
 ⟨⟨rfl,rfl,rfl,by simp,fun k hk=>World.putObj_heap_other (by omega)⟩,fun k h1 _=>World.putObj_heap_other (fun e=>ho (by rw[←e];exact h1)),
  fun k o2 h1 h2=>(World.putObj_heap_other (fun e=>by subst e;rw[h] at h1;cases h1;rw[hc] at h2;cases h2)).trans h1⟩
theorem Bk.setCell{own:Nat→Prop}{n₀:Nat}(A:World){p:Addr}(hl:n₀≤p.block)(ho:¬own p.block)(v:Value):Bk own n₀ A (A.setCell p v) :=
 ⟨(Below.refl _ _).setCell hl v,fun k h1 _=>Below.heap_setCell _ _ _ _ (fun e=>ho (by rw[←e];exact h1)),(KeepsWalks.setCell A p v).same⟩
theorem Bk.grown{own:Nat→Prop}{n₀:Nat}{A B:World}{row:Option Nat}(hg:A.grownBy B row)(hn:n₀≤A.heap.size)(hr:∀k,row=some k→n₀≤k∧¬own k∧∃cs e fz,A.heap[k]?=some (.cells cs e fz)):Bk own n₀ A B :=
 ⟨(Below.refl _ _).grown hg hn (fun k hk=>(hr k hk).1),fun k h1 h2=>hg.block k h2 (fun e=>(hr k e.symm).2.1 h1),
  fun k o h1 h2=>(hg.block k (aU h1) (fun e=>by obtain⟨_,_,cs,e2,fz,h3⟩:=hr k e.symm;rw[h3] at h1;cases h1;cases h2)).trans h1⟩
def YieldW(P:Program)(l:Nat)(args:Array Value)(W:World)(R:Ending→World→Prop):Prop :=
 ∃fn tmps assign body,(Instr.yield l args).run P W=.ok (.round l fn tmps assign body) W∧∀m,RoundIn Fence.wide m P l fn tmps assign body W R
theorem YieldW.mono{P:Program}{l:Nat}{args:Array Value}{W:World}{R R':Ending→World→Prop}(h:YieldW P l args W R)(hr:∀e w,R e w→R' e w):YieldW P l args W R':=by
 obtain⟨fn,tmps,assign,body,hy,hR⟩:=h;exact⟨fn,tmps,assign,body,hy,fun m=>(hR m).mono hr⟩
theorem abe{n:Nat}{P:Program}{l:Nat}{fn:FuncId}{tmps:Array Value}{assign body:Code}{W:World}{R:Ending→World→Prop}(l₀:Nat)(h:RoundIn Fence.wide n P l fn tmps assign body W R):RoundIn (Fence.wide.inRound l₀) n P l fn tmps assign body W R:=h
theorem YH{n m:Nat}{P:Program}{l:Nat}{fn:FuncId}{tmps:Array Value}{assign body:Code}{W:World}{R:Ending→World→Prop}(h:RoundIn Fence.wide n P l fn tmps assign body W R):RoundIn Fence.wide m P l fn tmps assign body W R :=
 ⟨h.1,fun c cs _=>h.2 c cs (room_wide _)⟩
theorem nZ{n:Nat}{P:Program}{f:FuncId}{args:Array Value}{W:World}{R:Ending→World→Prop}(l:Nat)(h:Calls P f args W R):CallsIn (Fence.wide.inRound l) n P f args W R :=
 CallsIn.inRound l (callsIn_wide.2 h)
def Seq{α:Type}(P:Program)(g:Nat)(lb:Array Value)(encs:α→Array Value)(own keep:Nat→Prop)(n₀:Nat)(xs:List α)(W:World):Prop :=
 ∀(n l:Nat) (J Jx:Nat→World→Prop),
  (∀s A B,J s A→Itk own W.heap.size A B→J s B)→(∀s A B,Jx s A→Itk own W.heap.size A B→Jx s B) →
  (∀k (hk:k<xs.length) W1,J k W1→(∀b,keep b→b<W1.heap.size)→YieldW P l (encs xs[k]) W1 fun e W' =>
   (e=.returned (.bool true)∧J (k+1) W'∧Bk keep n₀ W1 W')∨(e=.returned (.bool false)∧Jx (k+1) W'∧Bk keep n₀ W1 W')) →
  J 0 W →
  CallsIn Fence.wide n P g (#[.func (.yield l) #[] #[]]++lb) W fun e W'=>(∃v,e=.returned v)∧(J xs.length W'∨∃k,k≤xs.length∧Jx k W')
def roundQ(Bw:World→World→Prop)(I:Nat→World→Prop)(Ix:Code→Nat→World→Prop)(k:Nat)(W:World):Exit→Act→World→Prop
 | .normal,_,W'=>Bw W W'∧I (k+1) W'
 | .ret,_,W'=>Bw W W'∧Ix .ret (k+1) W'
 | .exit id,_,W'=>Bw W W'∧Ix (.exit id) (k+1) W'
 | .goto t,_,W'=>Bw W W'∧Ix (.goto t) (k+1) W'
 | .panic _,_,_=>False
 | .outgrown,_,_=>False
theorem UA{α:Type}{P:Program}{n:Nat}{g:Operand}{ps:Array Tmp}{assign body:Code}{Qx:Exit→Act→World→Prop}{a:Act}{w:World}
  {gf:Nat} {lb:Array Value} (hg:a.eval g=.func (.func gf) #[] lb) (eg:∀args w,(callFunc gf args).run P w=.ok (.enter gf args) w)
  {encs:α→Array Value} {own keep:Nat→Prop} {n₀:Nat} {xs:List α}
  (Oo:∀W1,Q w W1→W1.heap.size=w.heap.size+2→Seq P gf lb encs own keep n₀ xs W1)
  (aQ:∀k,own k→k≠w.heap.size∧k≠w.heap.size+1) (IY:∀k,keep k→k≠w.heap.size∧k≠w.heap.size+1) (hn₀:n₀≤w.heap.size) (oP:∀x,(encs x).size=ps.size)
  (I:Nat→World→Prop) (Ix:Code→Nat→World→Prop) (Ax:Nat→Act→World→Prop)
  (hI:∀s A B,I s A→Itk own w.heap.size A B→I s B) (hIx:∀c s A B,Ix c s A→Itk own w.heap.size A B→Ix c s B) (hAx:∀k a' A B,Ax k a' A→Itk own w.heap.size A B→Ax k a' B)
  (h0:I 0 w)
  (Yw:∀(l k:Nat) (hk:k<xs.length) (W:World) (K:Act→World→Prop),I k W→w.heap.size+2≤W.heap.size→(∀a' W',Q W W'→I k W'→Ax k a' W'→K a' W') →
   assign.wpIn (Fence.wide.inRound l) (n-1-1) P (Exit.then K (fun _ _ _=>False)) { tmps:=(ps.zip (encs xs[k])).foldl (fun t (p,v)=>t.setIfInBounds p v) a.tmps,defers:=[] } W)
  (aiL:∀(l k:Nat) (hk:k<xs.length) (a':Act) (W:World),((∃r,W.heap[l]?=some (.loop r))∧W.heap[w.heap.size]?=some (.deferred (some [])))→l=w.heap.size+1→I k W→Ax k a' W→(∀b,keep b→b<W.heap.size)→w.heap.size+2≤W.heap.size →
   body.wpIn (Fence.wide.inRound l) (n-1-1) P (roundQ (Bk (fun b=>keep b∨b=w.heap.size∨b=w.heap.size+1) n₀) I Ix k W) a' W)
  (aiM:∀(D:Nat) (W:World),D=w.heap.size→w.heap.size+2≤W.heap.size→I xs.length W→W.heap[D]?=some (.deferred (some []))→Qx .normal { a with defers:={ target:=.collected D,args:=#[] }::a.defers } W)
  (aiN:∀(D:Nat) (c:Code) (k:Nat) (W:World),D=w.heap.size→k≤xs.length→Ix c k W→W.heap[D]?=some (.deferred (some []))→c.wpIn Fence.wide n P Qx { a with defers:={ target:=.collected D,args:=#[] }::a.defers } W) :
  (Code.rangeFunc g ps assign body).wpIn Fence.wide n P Qx a w:=by
 refine wpIn_rangeFunc ?_;intro fn ZN;obtain⟨rec,vM⟩:∃rec:LoopState→Option Code→Loop,rec=fun st pe=>{ state:=st,pending:=pe,fn,tmps:=a.tmps,params:=ps,assign,body,defers:=w.heap.size }:=⟨_,rfl⟩
 obtain⟨W1,Qp⟩:∃W1,(w.alloc (.deferred (some []))).alloc (.loop (rec .ready none))=W1:=⟨_,rfl⟩;have jS:Q w W1:=by rw[←Qp];exact(Q.alloc w _).trans (Q.alloc _ _)
 have dN:W1.heap.size=w.heap.size+2:=by rw[←Qp];simp
 have hL1:W1.heap[w.heap.size+1]?=some (.loop (rec .ready none)):=by
  rw[←Qp];have:=World.alloc_heap_new (w.alloc (.deferred (some []))) (.loop (rec .ready none));rwa [World.size_alloc] at this
 have hK1:W1.heap[w.heap.size]?=some (.deferred (some [])):=by
  rw[←Qp];exact(Below.heap_alloc _ _ _ (by simp)).trans (World.alloc_heap_new w _)
 have hI1:I 0 W1:=hI _ _ _ h0 (Itk.of_q jS);have jf:¬own (w.heap.size+1):=fun h=>(aQ _ h).2 rfl
 have acO:¬keep (w.heap.size+1):=fun h=>(IY _ h).2 rfl
 have Xe:¬own w.heap.size:=fun h=>(aQ _ h).1 rfl
 refine⟨w.heap.size+1,[{ target:=.collected w.heap.size,args:=#[] }],W1,{ target:=.fn (.func gf) lb,args:=#[.func (.yield (w.heap.size+1)) #[] #[]] },W1,gf,
  #[.func (.yield (w.heap.size+1)) #[] #[]]++lb,W1,?_,?_,fun _ _=>trivial,?_,fun h=>(by cases h),?_⟩
 ·rw[←Qp,vM];exact run_enterLoop_outer _ _ _ _ _
 ·simp only[resolve,hg]
  simp[go_sem]
 ·simp[invoke,go_sem,eg]
 ·refine(Oo W1 jS dN (n-1) (w.heap.size+1)
   (fun k W=>I k W∧W.heap[w.heap.size+1]?=some (.loop (rec .ready none))∧W.heap[w.heap.size]?=some (.deferred (some [])))
   (fun k W=>∃c,Ix c k W∧W.heap[w.heap.size+1]?=some (.loop (rec .done (some c)))∧W.heap[w.heap.size]?=some (.deferred (some [])))
   (fun s A B hs hi=>⟨hI s A B hs.1 (hi.mono (fun _ h=>h) (by omega)),(hi.low _ (by omega) (aU hs.2.1) jf).trans hs.2.1,(hi.low _ (by omega) (aU hs.2.2) Xe).trans hs.2.2⟩)
   (fun s A B hs hi=>by
    obtain⟨c,hc,hl,hk⟩:=hs;exact⟨c,hIx c s A B hc (hi.mono (fun _ h=>h) (by omega)),(hi.low _ (by omega) (aU hl) jf).trans hl,(hi.low _ (by omega) (aU hk) Xe).trans hk⟩)
   ?_ ⟨hI1,hL1,hK1⟩).mono ?_
  ·
   rintro k hk W ⟨hi,hl,jL⟩ hob;have hy:=run_yield (P:=P) (args:=encs xs[k]) hl (by rw[vM];exact oP _)
   rw[vM] at hy;refine⟨fn,_,assign,body,hy,fun m=>YH (n:=n-1-1) (roundIn_of_wpIn trivial (Yw _ k hk W _ hi (aU hl) ?_))⟩
   clear hy;intro a' Wa ng hia EN;have Gw:=(ng.block _ (aU hl)).trans hl;have FE:=(ng.block _ (aU jL)).trans jL;refine⟨_,run_beginRound Gw (by rw[vM]),?_⟩
   have jB:(Wa.putObj (w.heap.size+1) (.loop { rec .ready none with state:=.busy })).heap[w.heap.size+1]?=some (.loop { rec .ready none with state:=.busy }):=World.putObj_heap_same (aU Gw);have mP:(Wa.putObj (w.heap.size+1) (.loop { rec .ready none with state:=.busy })).heap[w.heap.size]?=some (.deferred (some [])):=(World.putObj_heap_other (by omega)).trans FE
   have mD:Itk own w.heap.size Wa (Wa.putObj (w.heap.size+1) (.loop { rec .ready none with state:=.busy })):=Itk.put _ Gw rfl (by omega)
   have aO:Bk keep n₀ W (Wa.putObj (w.heap.size+1) (.loop { rec .ready none with state:=.busy })):=(Bk.of_q ng (by have:=aU hl;omega)).trans (Bk.put _ Gw rfl (by omega) acO)
   refine wpIn_mono (aiL _ k hk a' _ ⟨⟨_,jB⟩,mP⟩ rfl (hI _ _ _ hia mD) (hAx _ _ _ _ EN mD) (fun b hb=>by have:=hob b hb;have:=ng.size;simp;omega) (by have:=aU Gw;simp;omega)) ?_
   have fin:∀(jump:Option Code) (W3:World),Bk (fun b=>keep b∨b=w.heap.size∨b=w.heap.size+1) n₀ (Wa.putObj (w.heap.size+1) (.loop { rec .ready none with state:=.busy })) W3 →
     (Instr.endRound (w.heap.size+1) jump).run P W3=.ok (.bool jump.isNone) (W3.putObj (w.heap.size+1) (.loop (rec (if jump.isNone then .ready else .done) jump))) ∧
     W3.heap[w.heap.size+1]?=some (.loop { rec .ready none with state:=.busy }) ∧
     (W3.putObj (w.heap.size+1) (.loop (rec (if jump.isNone then .ready else .done) jump))).heap[w.heap.size+1]?=some (.loop (rec (if jump.isNone then .ready else .done) jump)) ∧
     (W3.putObj (w.heap.size+1) (.loop (rec (if jump.isNone then .ready else .done) jump))).heap[w.heap.size]?=some (.deferred (some [])) ∧
     Itk own w.heap.size W3 (W3.putObj (w.heap.size+1) (.loop (rec (if jump.isNone then .ready else .done) jump))) ∧
     Bk keep n₀ W (W3.putObj (w.heap.size+1) (.loop (rec (if jump.isNone then .ready else .done) jump))):=fun jump W3 jO=>by
    have lC:=(jO.own _ (.inr (.inr rfl)) (aU jB)).trans jB;have rT:=(jO.own _ (.inr (.inl rfl)) (aU mP)).trans mP;have:=run_endRound (P:=P) jump lC;rw[vM] at this ⊢;rw[vM] at lC;exact⟨this,lC,World.putObj_heap_same (aU lC),(World.putObj_heap_other (by omega)).trans rT,Itk.put _ lC rfl (by omega),
     (aO.trans (jO.mono (fun _ h=>.inl h) (Nat.le_refl _))).trans (Bk.put _ lC rfl (by omega) acO)⟩
   rintro e a3 W3 hp;cases e with
   | normal =>
    obtain⟨jO,rZ⟩:=hp;obtain⟨hr,lC,En,Eo,Gx,gZ⟩:=fin none W3 jO;exact⟨_,_,hr,.inl ⟨rfl,⟨hI _ _ _ rZ Gx,En,Eo⟩,gZ⟩⟩
   | ret =>
    obtain⟨jO,rZ⟩:=hp;obtain⟨hr,lC,En,Eo,Gx,gZ⟩:=fin (some .ret) W3 jO;exact⟨_,_,hr,.inr ⟨rfl,⟨.ret,hIx _ _ _ _ rZ Gx,En,Eo⟩,gZ⟩⟩
   | exit id =>
    obtain⟨jO,rZ⟩:=hp;obtain⟨hr,lC,En,Eo,Gx,gZ⟩:=fin (some (.exit id)) W3 jO;exact⟨_,_,hr,.inr ⟨rfl,⟨.exit id,hIx _ _ _ _ rZ Gx,En,Eo⟩,gZ⟩⟩
   | goto t =>
    obtain⟨jO,rZ⟩:=hp;obtain⟨hr,lC,En,Eo,Gx,gZ⟩:=fin (some (.goto t)) W3 jO;exact⟨_,_,hr,.inr ⟨rfl,⟨.goto t,hIx _ _ _ _ rZ Gx,En,Eo⟩,gZ⟩⟩
   | panic ch=>exact hp.elim
   | outgrown=>exact hp.elim
  ·
   rintro e W2 ⟨⟨v,rfl⟩,(⟨hi,hl,hk⟩|⟨k,xH,c,hi,hl,hk⟩)⟩
   ·exact⟨none,_,by have:=run_endLoop (P:=P) hl (by rw[vM];simp);rw[vM] at this;exact this,aiM _ _ rfl (by have:=aU hl;simp;omega) (hI _ _ _ hi (Itk.put _ hl rfl (by omega))) ((World.putObj_heap_other (by omega)).trans hk)⟩
   ·exact⟨some c,_,by have:=run_endLoop (P:=P) hl (by rw[vM];simp);rw[vM] at this;exact this,aiN _ c k _ rfl xH (hIx c _ _ _ hi (Itk.put _ hl rfl (by omega))) ((World.putObj_heap_other (by omega)).trans hk)⟩
theorem abf{n:Nat}{p:Nat→Bool}(hm:∀a b,a≤b→b<n→p a=true→p b=true){m:Nat}(h:p m=false)(t:Nat)(ht:t≤m)(hn:m<n):p t=false:=by
 cases e:p t with
 | false=>rfl
 | true=>have:=hm t m ht hn e;rw[h] at this;cases this
def SearchP(n:Nat)(p:Nat→Bool)(w:World)(e:Ending)(w':World):Prop :=
 (∃i:Nat,e=.returned (.int .i64 i)∧i≤n∧(∀j,j<i→p j=false)∧(∀j,i≤j→j<n→p j=true))∧Q w w'
theorem VK(g:Nat)(cb:Array Value)(n:Nat)(p:Nat→Bool)(w:World)(eg:∀args w,(callFunc g args).run Tryz.prog w=.ok (.enter g args) w)(aY:n<4611686018427387904)
  (hf:∀i,i<n→∀W,Q w W→Calls Tryz.prog g (#[.int .i64 i]++cb) W fun e W'=>e=.returned (.bool (p i))∧Q W W') (SE:∀a b,a≤b→b<n→p a=true→p b=true) :
  Calls Tryz.prog 199 #[.int .i64 n,.func (.func g) #[] cb] w (SearchP n p w):=by
 have HF:=Hd hf;have M:=Hd SE;clear hf SE;go_enter Tryz.func199,Tryz.ntmps199;go_wp2_with fail;go_loopw [5,6] (fun i j wr=>∃a b:Nat,a≤b∧b≤n∧i=.int .i64 a∧j=.int .i64 b∧Hid ((∀t,t<a→p t=false)∧(∀t,b≤t→t<n→p t=true))∧Hid (Q w wr)) (fun i j _=>(intOf j).toNat-(intOf i).toNat)
 case atStart=>exact⟨0,n,by omega,by omega,rfl,rfl,⟨fun t h=>by omega,fun t h1 h2=>by omega⟩,Q.refl w⟩
 case round =>
  obtain⟨a,b,Az,ZO,rfl,rfl,HI,HQ⟩:=hrel;by_cases hlt:a<b
  ·have c:=HF.out ((a+b) / 2) (by omega) wr HQ.out
   rw[show(((a+b) / 2:Nat):Int)=((a:Int)+(b:Int)) / 2 by omega] at c
   have C:=Hd c;clear c;go_wp2_with fail;refine C.out.mono ?_;rintro e w1 ⟨rfl,q1⟩;have aC:=Hd q1;clear q1;cases hp:p ((a+b) / 2) with
   | false =>
    have HP:=Hd hp;clear hp;go_wp2_with fail;go_roundw;case rel=>exact⟨(a+b) / 2+1,b,by omega,by omega,by rw[show((a:Int)+(b:Int)) / 2+1=(((a+b) / 2+1:Nat):Int) by omega],rfl,⟨fun t ht=>abf M.out HP.out t (by omega) (by omega),HI.out.2⟩,HQ.out.trans aC.out⟩
    case measure=>simp[intOf];omega
   | true =>
    have HP:=Hd hp;clear hp;go_wp2_with fail;go_roundw;case rel=>exact⟨a,(a+b) / 2,by omega,by omega,rfl,by rw[show((a:Int)+(b:Int)) / 2=(((a+b) / 2:Nat):Int) by omega],⟨HI.out.1,fun t ht htn=>M.out ((a+b) / 2) t ht htn HP.out⟩,HQ.out.trans aC.out⟩
    case measure=>simp[intOf];omega
  ·have Jv:b=a:=by omega
   subst Jv;go_wp2_with fail;go_ret;exact⟨⟨b,rfl,ZO,HI.out.1,HI.out.2⟩,HQ.out⟩
def Spans(w:World):Prop:=∀(i:Nat) (x:Int×Int×Int),spansL[i]?=some x →
 w.cell? ⟨2,i*3,none⟩=some (.int .i32 x.1)∧w.cell? ⟨2,i*3+1,none⟩=some (.int .i32 x.2.1)∧w.cell? ⟨2,i*3+2,none⟩=some (.int .i64 x.2.2)
theorem Spans.stays{w w':World}(h:Spans w)(hb:Q w w'):Spans w':=fun i x hx=>by
 obtain⟨a,b,c⟩:=h i x hx
 exact⟨ah hb a,ah hb b,ah hb c⟩
theorem Ph:spansL.length=34:=rfl
theorem Jg:∀x∈spansL,0≤x.1∧x.1≤x.2.1∧x.2.1≤1114111∧0≤x.2.2∧x.2.2≤3:=by decide
theorem agO:∀i:Fin 34,∀j:Fin 34,i.val≤j.val→(spansL.getD i.val (0,0,0)).2.1≤(spansL.getD j.val (0,0,0)).2.1:=by decide +kernel
theorem kind1_any(i:Nat)(r:Int)(B:Nat)(w:World)(hi:i<34)(hc:w.cell? ⟨B,0,none⟩=some (.int .i64 r))(hS:Spans w):
  Calls Tryz.prog 200 #[.int .i64 i,.pointer (some ⟨B,0,none⟩)] w fun e w'=>e=.returned (.bool (decide (r≤(spansL.getD i (0,0,0)).2.1)))∧Q w w':=by
 obtain⟨x,hx⟩:∃x,spansL[i]?=some x:=⟨_,List.getElem?_eq_getElem (show i<spansL.length by rw[Ph];exact hi)⟩
 have hd:spansL.getD i (0,0,0)=x:=by rw[List.getD_eq_getElem?_getD,hx];rfl
 obtain⟨a,b,c⟩:=hS i x hx;have hb:=Jg x (List.mem_of_getElem? hx);rw[hd];obtain⟨lo,h,k⟩:=x;simp only at a b c hb ⊢;obtain⟨g1,g2,g3,g4,g5⟩:=hb;clear hS hx hd;have mD:(i:Int)<34:=by omega
 go_enter Tryz.func200,Tryz.ntmps200;go_wp2_with fail;go_quiet (fail);go_wp2_with fail;go_ret;exact⟨rfl,Q.drewN _ _⟩
theorem YI{α:Type}(p:α→Bool)(l:List α)(i:Nat)(h:∀j x,l[j]?=some x→j<i→p x=false):l.find? p=(l.drop i).find? p:=by
 induction i generalizing l with
 | zero=>rfl
 | succ i ih =>
  cases l with
  | nil=>rfl
  | cons a l =>
   rw[List.drop_succ_cons,List.find?_cons,h 0 a rfl (by omega)]
   exact ih l (fun j x hj hi=>h (j+1) x (by simpa using hj) (by omega))
theorem kind_at(r:Int)(i:Nat)(x:Int×Int×Int)(hx:spansL[i]?=some x)(h1:∀j,j<i→decide (r≤(spansL.getD j (0,0,0)).2.1)=false)(h2:decide (r≤(spansL.getD i (0,0,0)).2.1)=true):qJ r=if x.1≤r then x.2.2 else 0:=by
 have hd:∀j y,spansL[j]?=some y→spansL.getD j (0,0,0)=y:=fun j y h=>by rw[List.getD_eq_getElem?_getD,h];rfl
 unfold qJ;rw[YI _ spansL i (fun j y hj hi=>by have:=h1 j hi;rwa [hd j y hj] at this)]
 obtain⟨hlt,KO⟩:=List.getElem?_eq_some_iff.1 hx;rw[hd i x hx] at h2;rw[List.drop_eq_getElem_cons hlt,KO,List.find?_cons,h2]
theorem kind_none(r:Int)(h1:∀j,j<34→decide (r≤(spansL.getD j (0,0,0)).2.1)=false):qJ r=0:=by
 have hd:∀j y,spansL[j]?=some y→spansL.getD j (0,0,0)=y:=fun j y h=>by rw[List.getD_eq_getElem?_getD,h];rfl
 unfold qJ;rw[YI _ spansL 34 (fun j y hj hi=>by have:=h1 j hi;rwa [hd j y hj] at this)]
 rfl
theorem abg(r:Int):0≤qJ r∧qJ r≤3:=by
 unfold qJ;split
 ·rename_i x hx
  have:=Jg x (List.mem_of_find?_eq_some hx);split<;>omega
 ·omega
theorem Kind_any(r:Int)(w:World)(h1 : -1≤r)(h2:r≤1114111)(hS:Spans w):
  Calls Tryz.prog 171 #[.int .i64 r] w fun e w'=>e=.returned (.int .i64 (qJ r))∧Q w w':=by
 have hb:Boxed (w.alloc (.cells #[.int .i64 r] 3)) w.heap.size 3 (.int .i64 r):=Boxed.new _ _ _;have c:=VK 200 #[.pointer (some ⟨w.heap.size,0,none⟩)] 34 (fun i=>decide (r≤(spansL.getD i (0,0,0)).2.1)) (w.alloc (.cells #[.int .i64 r] 3)) (enters_of Tryz.func200 (by kernel_rfl) rfl) (by omega)
  (fun i hi W hq=>kind1_any i r w.heap.size W hi (ah hq hb.cell) ((hS.stays (Q.alloc _ _)).stays hq))
  (fun a b Az Jy h=>by
   simp only[decide_eq_true_eq] at h ⊢;have:=agO ⟨a,by omega⟩ ⟨b,Jy⟩ Az
   simp only at this;omega)
 have C:=Hd c;have HS:=Hd hS;have HB:=Hd hb;clear c hS hb;go_enter Tryz.func171,Tryz.ntmps171;go_wp2_with fail;refine C.out.mono ?_;rintro e w1 ⟨⟨i,rfl,hi,BO,KQ⟩,q1⟩;have hc:=ah q1 HB.out.cell;have aC:=Hd q1;by_cases ak5:i<34
 ·obtain⟨x,hx⟩:∃x,spansL[i]?=some x:=⟨_,List.getElem?_eq_getElem (show i<spansL.length by rw[Ph];exact ak5)⟩
  obtain⟨ca,cb,cc⟩:=((HS.out.stays (Q.alloc _ _)).stays q1) i x hx;have hk:=kind_at r i x hx BO (KQ i (by omega) ak5)
  have Uc:=Jg x (List.mem_of_getElem? hx);have HK:=Hd hk;clear BO KQ q1 hx hk;obtain⟨lo,h,k⟩:=x;simp only at ca cb cc Uc HK;obtain⟨g1,g2,g3,g4,g5⟩:=Uc;have mD:(i:Int)<34:=by omega
  by_cases bR:lo≤r
  ·go_wp2_with fail
   go_quiet (fail);go_wp2_with fail;go_ret;exact⟨gV (by rw[HK.out,if_pos (by omega)]),((Q.alloc _ _).trans aC.out).trans (Q.drewN _ _)⟩
  ·have hd:decide (lo≤r)=false:=decide_eq_false bR
   go_wp2_with fail;go_quiet (fail);go_wp2_with fail;go_ret;exact⟨gV (by rw[HK.out,if_neg (by omega)]),((Q.alloc _ _).trans aC.out).trans (Q.drewN _ _)⟩
 ·have rZ:i=34:=by omega
  subst rZ;have hk:=kind_none r BO;have HK:=Hd hk;clear BO KQ q1 hk ak5;go_wp2_with fail;go_quiet (fail);go_wp2_with fail;go_ret;exact⟨gV HK.out.symm,((Q.alloc _ _).trans aC.out).trans (Q.drewN _ _)⟩
end
end Go.Proofs.YthijhicdmnoifaaGreatDoor
