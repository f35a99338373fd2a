/- Joined texts of one proof. -/
import Derived.Test.YthijhicdmnoifaaGreatDoorRWDictG
set_option linter.unusedSimpArgs false
set_option linter.unusedVariables false
set_option linter.unnecessarySimpa false
set_option maxRecDepth 100000
set_option maxHeartbeats 8000000
namespace Go.Proofs.YthijhicdmnoifaaGreatDoor
section
def jm:Int→List aZ→Bytes
 | _,[]=>[]
 | last,p::l=>qM p last++jm p.1 l
def A8:Int→List aZ→Int
 | last,[]=>last
 | _,p::l=>A8 p.1 l
theorem SS(last:Int)(a b:List aZ):A8 last (a++b)=A8 (A8 last a) b:=by
 induction a generalizing last with
 | nil=>rfl
 | cons p a ih=>exact ih p.1
theorem DJ(last:Int)(a b:List aZ):jm last (a++b)=jm last a++jm (A8 last a) b:=by
 induction a generalizing last with
 | nil=>rfl
 | cons p a ih=>rw[List.cons_append,jm,jm,ih,A8,List.append_assoc]
def dAt(l:List aZ)(k:Nat):Int:=A8 (-1) (l.take k)
def sAt(l:List aZ)(k:Nat):Nat:=(jm (-1) (l.take k)).length
def lX(l:List aZ):Nat→List Nat
 | 0=>[]
 | m+1=>lX l m++[(dAt l (8*(m+1))-dAt l (8*m)).toNat,sAt l (8*(m+1))-sAt l (8*m)]
theorem Ad(l:List aZ)(m:Nat):(lX l m).length=2*m:=by
 induction m with
 | zero=>rfl
 | succ m ih=>rw[lX,List.length_append,ih];simp;omega
theorem abl(l:List aZ)(m M:Nat)(h:m<M):(lX l M).drop (2*m)=(dAt l (8*(m+1))-dAt l (8*m)).toNat::(sAt l (8*(m+1))-sAt l (8*m))::(lX l M).drop (2*(m+1)):=by
 induction M with
 | zero=>omega
 | succ M ih =>
  have hl:=Ad l M;rw[lX];by_cases e:m=M
  ·subst e
   rw[List.drop_append_of_le_length (by omega),List.drop_eq_nil_of_le (by omega),List.drop_eq_nil_of_le (by simp;omega)]
   rfl
  ·rw[List.drop_append_of_le_length (by omega),List.drop_append_of_le_length (by omega),ih (by omega)]
   rfl
def stAt(l:List aZ)(k:Nat):Jf :=
 { skips:=lX l ((k-1) / 8),body:=jm (-1) (l.take k),last:=dAt l (8*((k-1) / 8)),doc:=dAt l k,from_:=sAt l (8*((k-1) / 8)) }
theorem stAt_step(l:List aZ)(k:Nat)(h:k<l.length):oq (stAt l k) k l[k]=stAt l (k+1):=by
 have hb:jm (-1) (l.take (k+1))=jm (-1) (l.take k)++qM l[k] (dAt l k):=by
  rw[List.take_succ_eq_append_getElem h,DJ];simp[jm,dAt]
 have hd:dAt l (k+1)=l[k].1:=by
  unfold dAt;rw[List.take_succ_eq_append_getElem h,SS];rfl
 unfold oq;by_cases hk:0<k∧k%8=0
 ·rw[if_pos hk]
  unfold stAt;simp only[hb,hd];rw[show k+1-1=k by omega,show k / 8=(k-1) / 8+1 by omega,show 8*((k-1) / 8+1)=k by omega,lX,show 8*((k-1) / 8+1)=k by omega]
  rfl
 ·rw[if_neg hk]
  unfold stAt;simp only[hb,hd];rw[show k+1-1=k by omega,show k / 8=(k-1) / 8 by omega]
theorem packF_at(l:List aZ)(k:Nat)(h:k≤l.length):xU (stAt l k) k (l.drop k)=stAt l l.length:=by
 obtain⟨n,hn⟩:∃n,n=l.length-k:=⟨_,rfl⟩;induction n generalizing k with
 | zero=>rw[show k=l.length by omega,List.drop_length];rfl
 | succ n ih =>
  rw[List.drop_eq_getElem_cons (by omega),xU,stAt_step l k (by omega)]
  exact ih (k+1) (by omega) (by omega)
theorem Pj(l:List aZ):iG l=bI l.length++(dQ (lX l ((l.length-1) / 8))++jm (-1) l):=by
 have h:=packF_at l 0 (by omega)
 rw[List.drop_zero,show stAt l 0=⟨[],[],-1,-1,0⟩ by simp[stAt,lX,dAt,sAt,jm,A8]] at h
 unfold iG;rw[h];simp only[stAt,List.take_length]
theorem Bq(last:Int)(l:List Int)(m:Int)(h:gW last l m=true)(hm:last<m):(l.length:Int)≤m-1-last∧∀x∈l,last<x∧x<m:=by
 induction l generalizing last with
 | nil=>simp;omega
 | cons a l ih =>
  rw[gW] at h;simp only[Bool.and_eq_true,decide_eq_true_eq] at h;obtain⟨i1,i2⟩:=ih a h.2 h.1.2;refine⟨by simp;omega,fun x hx=>?_⟩
  rcases List.mem_cons.1 hx with rfl|hx
  ·exact h.1
  ·have:=i2 x hx;omega
theorem qX{last:Int}{p:aZ}{l:List aZ}(h:aV last (p::l)=true):last<p.1∧p.1<500∧p.2≠[]∧gW (-1) p.2 2000=true∧aV p.1 l=true:=by
 rw[aV] at h;simp only[Bool.and_eq_true,decide_eq_true_eq,Bool.not_eq_true',List.isEmpty_eq_false_iff] at h;obtain⟨⟨⟨⟨a,b⟩,c⟩,d⟩,e⟩:=h;exact⟨a,b,c,d,e⟩
theorem aes(last:Int)(l:List aZ)(h:aV last l=true)(hl:last<500):(l.length:Int)≤499-last∧∀p∈l,last<p.1∧p.1<500∧p.2≠[]∧gW (-1) p.2 2000=true:=by
 induction l generalizing last with
 | nil=>simp;omega
 | cons p l ih =>
  obtain⟨a,b,c,d,e⟩:=qX h;obtain⟨i1,i2⟩:=ih p.1 e b;refine⟨by simp;omega,fun x hx=>?_⟩
  rcases List.mem_cons.1 hx with rfl|hx
  ·exact⟨a,b,c,d⟩
  ·have:=i2 x hx
   exact⟨by omega,this.2⟩
theorem JW(last:Int)(l:List aZ)(k:Nat)(h:aV last l=true):aV (A8 last (l.take k)) (l.drop k)=true:=by
 induction l generalizing last k with
 | nil=>simp[aV]
 | cons p l ih =>
  cases k with
  | zero=>simpa[A8] using h
  | succ k =>
   obtain⟨_,_,_,_,e⟩:=qX h;rw[List.take_succ_cons,List.drop_succ_cons,A8];exact ih p.1 k e
theorem Me(last:Int)(l:List aZ)(h:aV last l=true)(hl:last<500):last≤A8 last l∧A8 last l<500∧∀p∈l,p.1≤A8 last l:=by
 induction l generalizing last with
 | nil=>simp[A8];omega
 | cons p l ih =>
  obtain⟨a,b,_,_,e⟩:=qX h;obtain⟨i1,i2,i3⟩:=ih p.1 e b;rw[A8];refine⟨by omega,i2,fun x hx=>?_⟩
  rcases List.mem_cons.1 hx with rfl|hx
  ·exact i1
  ·exact i3 x hx
theorem JX(last:Int)(l:List aZ)(k:Nat)(h:aV last l=true):aV last (l.take k)=true:=by
 induction l generalizing last k with
 | nil=>simp[aV]
 | cons p l ih =>
  cases k with
  | zero=>simp[aV]
  | succ k =>
   obtain⟨a,b,c,d,e⟩:=qX h;rw[List.take_succ_cons,aV,ih p.1 k e,d,decide_eq_true a,decide_eq_true b];cases hp:p.2 with
   | nil=>exact absurd hp c
   | cons _ _=>rfl
theorem qK(l:List aZ)(h:aV (-1) l=true)(k:Nat): -1≤dAt l k∧dAt l k<500∧∀p∈l.take k,p.1≤dAt l k:=Me (-1) (l.take k) (JX _ l k h) (by omega)
theorem dAt_mono(l:List aZ)(h:aV (-1) l=true)(j k:Nat)(Cn:j≤k):dAt l j≤dAt l k:=by
 unfold dAt;rw[show l.take k=l.take j++(l.drop j).take (k-j) by
  rw[←List.take_add,Nat.add_sub_cancel' Cn],SS]
 have h1:=JW (-1) l j h;have h2:=(qK l h j).2.1;exact(Me _ _ (JX _ _ (k-j) h1) h2).1
theorem Pm(at_:Int)(l:List Int):(kG at_ l).length=l.length:=by
 induction l generalizing at_ with
 | nil=>rfl
 | cons a l ih=>simp[kG,ih]
theorem oneRd_len(p:aZ)(last:Int):(qM p last).length≤10*(p.2.length+2):=by
 have:=zx ((p.1-last).toNat::p.2.length::kG (-1) p.2);rw[List.length_cons,List.length_cons,Pm] at this;exact this
theorem bodyF_len(last:Int)(l:List aZ)(h:∀p∈l,p.2.length≤2000):(jm last l).length≤l.length*20020:=by
 induction l generalizing last with
 | nil=>simp[jm]
 | cons p l ih =>
  rw[jm,List.length_append,List.length_cons,Nat.add_mul];have h1:=oneRd_len p last;have h2:=h p (by simp)
  have h3:=ih p.1 (fun x hx=>h x (by simp[hx]))
  omega
theorem vJ(l:List aZ)(h:aV (-1) l=true):l.length≤500∧(∀p∈l,p.2.length≤2000∧p.2≠[] ∧ -1<p.1∧p.1<500∧gW (-1) p.2 2000=true)∧(jm (-1) l).length≤10010000:=by
 obtain⟨a,b⟩:=aes (-1) l h (by omega)
 have hp:∀p∈l,p.2.length≤2000:=fun p hp=>by
  have:=Bq (-1) p.2 2000 (b p hp).2.2.2 (by omega)
  omega
 refine⟨by omega,fun p Qu=>⟨hp p Qu,(b p Qu).2.2.1,(b p Qu).1,(b p Qu).2.1,(b p Qu).2.2.2⟩,?_⟩
 have:=bodyF_len (-1) l hp;have h5:l.length*20020≤500*20020:=Nat.mul_le_mul_right _ (by omega)
 omega
theorem sAt_mono(l:List aZ)(j k:Nat)(h:j≤k):sAt l j≤sAt l k:=by
 unfold sAt;rw[show l.take k=l.take j++(l.drop j).take (k-j) by
  rw[←List.take_add,Nat.add_sub_cancel' h],DJ]
 simp
theorem sAt_le(l:List aZ)(j:Nat):sAt l j≤(jm (-1) l).length:=by
 unfold sAt;conv=>rhs;rw[←List.take_append_drop j l,DJ]
 simp
theorem body_drop(l:List aZ)(j:Nat):(jm (-1) l).drop (sAt l j)=jm (dAt l j) (l.drop j):=by
 conv=>lhs;rw[←List.take_append_drop j l,DJ]
 unfold sAt dAt;rw[List.take_append_drop];simp
def iY(l:List aZ)(doc:Int):List aZ:=l.filter fun p=>decide (doc≤p.1)
theorem agT(l:List aZ)(h:aV (-1) l=true)(j:Nat)(doc:Int)(hd:j=0∨dAt l j<doc):iY (l.drop j) doc=iY l doc:=by
 conv=>rhs;rw[←List.take_append_drop j l]
 unfold iY;rw[List.filter_append];have:(l.take j).filter (fun p=>decide (doc≤p.1))=[]:=by
  rw[List.filter_eq_nil_iff];intro p hp;rcases hd with rfl|hd
  ·simp at hp
  ·have:=(qK l h j).2.2 p hp
   simp;omega
 rw[this,List.nil_append]
theorem agU(L:List aZ)(doc:Int)(k:Nat)(hk:k<L.length):iY (L.take (k+1)) doc=iY (L.take k) doc++(if doc≤L[k].1 then [L[k]] else []):=by
 unfold iY;rw[List.take_succ_eq_append_getElem hk,List.filter_append];congr 1;by_cases h:doc≤L[k].1
 ·rw[if_pos h];simp[h]
 ·rw[if_neg h];simp[h]
theorem fromP_at(L:List aZ)(doc:Int)(k:Nat)(hk:k<L.length)(h:doc≤L[k].1):∃hi:(iY (L.take k) doc).length<(iY L doc).length,(iY L doc)[(iY (L.take k) doc).length]=L[k]:=by
 have e:iY L doc=iY (L.take k) doc++(L[k]::iY (L.drop (k+1)) doc):=by
  conv=>lhs;rw[←List.take_append_drop k L]
  unfold iY;rw[List.filter_append,List.drop_eq_getElem_cons hk,List.filter_cons,if_pos (by simpa using h)]
 refine⟨by rw[e,List.length_append,List.length_cons];omega,?_⟩
 have:(iY L doc)[(iY (L.take k) doc).length]?=some L[k]:=by
  rw[e,List.getElem?_append_right (by omega),Nat.sub_self];rfl
 exact(List.getElem?_eq_some_iff.1 this).2
end
section
open Go.RowKit
def Rdr(w:World)(R:Nat)(s:Bytes):Prop:=Blk w R 276 #[ak s,.bool false]
theorem Rdr.stays{w w':World}{R:Nat}{s:Bytes}(h:Rdr w R s)(q:Q w w'):Rdr w' R s:=Blk.stays h q
theorem Yb(R:Nat)(s:Bytes)(v:Nat)(r:Bytes)(w:World)(hb:Rdr w R s)(hs:s.length≤9223372036854775807)(h:IsVar s v r)(hv:v≤2147483647):
  Calls Tryz.prog 179 #[.pointer (some ⟨R,0,none⟩)] w fun e w'=>e=.returned (.int .i64 v)∧Rdr w' R r∧Turn (·=R) w w':=by
 have c:=DI s v r w hs h;obtain⟨c0,c1,f0,f1⟩:=Blk.c2 hb;have C:=Hd c;have HB:=Hd hb;clear c h hb;have hlt:¬2147483647<v:=by omega
 go_enter Tryz.func179,Tryz.ntmps179;go_wp2_with fail;refine C.out.mono ?_;rintro e w1 ⟨rfl,q1⟩;have dS:=HB.out.stays q1;obtain⟨d0,d1,g0,g1⟩:=Blk.c2 dS;have jT:=Hd dS;have aC:=Hd q1;clear dS q1 c0 c1 f0 f1;go_wp2_with fail;go_ret;exact⟨rfl,Blk.set jT.out 0 (ak r),Turn.setCell (own:=(·=R)) (Turn.of_q aC.out) (.inl rfl) _⟩
def Iy(l:List Int):List Value:=l.map fun x=>.int .i64 x
theorem PPost_ok(R:Nat)(p:aZ)(last:Int)(s r:Bytes)(w:World)(hb:Rdr w R s)(hs:s.length≤1000000000000)(h:s=qM p last++r)(h0 : -1≤last)(h1:last<p.1)(h2:p.1<500)(h3:gW (-1) p.2 2000=true):
  Calls Tryz.prog 206 #[.pointer (some ⟨R,0,none⟩),.int .i64 last] w fun e w'=>∃v,e=.returned (.agg #[.int .i64 p.1,v])∧w'.ownsRow w.heap.size 3 1 v p.2.length (Iy p.2)∧Rdr w' R r∧Turn (·=R) w w':=by
 obtain⟨i0,hi,fJ,eU,fD⟩:=info_parts (show(Tryz.prog.info? 3).map (fun i=>(i.zero,i.size,i.bytes))=some (some (.int .i64 0),1,8) by kernel_rfl)
 obtain⟨d,ps⟩:=p;simp only at h h1 h2 h3 ⊢;have aD:=(Bq (-1) ps 2000 h3 (by omega)).1
 obtain⟨s1,dN⟩:∃s1,s1=bI ps.length++(dQ (kG (-1) ps)++r):=⟨_,rfl⟩;obtain⟨s2,kE⟩:∃s2,s2=dQ (kG (-1) ps)++r:=⟨_,rfl⟩;have Jz:s=bI (d-last).toNat++s1:=by rw[h,dN];simp[qM,dQ]
 rw[←kE] at dN;have jZ:s1.length≤1000000000000:=by have:=congrArg List.length Jz;rw[List.length_append] at this;omega
 have jB:s2.length≤1000000000000:=by have:=congrArg List.length dN;rw[List.length_append] at this;omega
 have c:=fun w hb=>Yb R s (d-last).toNat s1 w hb (by omega) ⟨by omega,Jz⟩ (by omega)
 have c2:=fun w hb=>Yb R s1 ps.length s2 w hb (by omega) ⟨by omega,dN⟩ (by omega)
 have R8:((d-last).toNat:Int)=d-last:=by omega
 generalize (d-last).toNat=dn at *;have C:=Hd c;have C2:=Hd c2;have HB:=Hd hb;have Ep:=Hd kE;have H3:=Hd h3;clear c c2 hb dN kE Jz h h3;go_enter Tryz.func206,Tryz.ntmps206;go_wp2_with fail;refine(C.out _ (HB.out.stays (Q.alloc _ _))).mono ?_;rintro e w1 ⟨rfl,dS,t1⟩;have hRw:R<w.heap.size:=HB.out.lt;have z1:Blk w1 w.heap.size 201 #[.int .i64 0,.slice none 0 0]:=t1.blk (Blk.new w _ _) (by omega)
 have tt1:Turn (·=R) w w1:=(Turn.of_q (Q.alloc w _)).trans t1
 have dN:w.heap.size<w1.heap.size:=by have:=t1.size;simp at this;omega
 rw[R8];have as3:=HB.out;have jT:=Hd dS;have F3:=Hd z1;have mR:=Hd tt1;clear dS z1 tt1 t1 C as3;go_wp2_with fail;have hd2:last+(d-last)=d:=by omega
 rw[hd2];clear hd2;refine(C2.out _ (jT.out.stays (Q.alloc _ _))).mono ?_;rintro e w2 ⟨rfl,aO,t2⟩;have hR1:R<w1.heap.size:=by omega
 have z2:Blk w2 w.heap.size 201 #[.int .i64 0,.slice none 0 0]:=t2.blk ((F3.out).alloc _) (by omega)
 have p2:Blk w2 w1.heap.size 201 #[.int .i64 d,.slice none 0 0]:=t2.blk (Blk.new w1 _ _) (by omega)
 have tt2:Turn (·=R) w w2:=(mR.out.trans (Turn.of_q (Q.alloc w1 _))).trans t2
 have ak9:w1.heap.size<w2.heap.size:=by have:=t2.size;simp at this;omega
 have eG:=Hd aO;have RB:=Hd z2;have Sb:=Hd p2;have Nb:=Hd tt2;clear aO z2 p2 tt2 t2 C2 jT F3 mR HB;have bR:¬(2000:Int)<(ps.length:Int):=by omega
 go_wp2_with fail;go_loopw [6,15] (fun av i wr=>∃(k:Nat) (q:Int) (s':Bytes) (pv:Value),k≤ps.length∧i=.int .i64 k∧av=.int .i64 q∧Hid (s'=dQ (kG q (ps.drop k))++r)∧Hid (gW q (ps.drop k) 2000=true) ∧ -1≤q∧q<2000∧s'.length≤1000000000000 ∧
  Hid (Rdr wr R s')∧Hid (Blk wr w.heap.size 201 #[.int .i64 0,.slice none 0 0])∧Hid (Blk wr w1.heap.size 201 #[.int .i64 d,pv]) ∧
  Hid (wr.ownsRow (w1.heap.size+1) 3 1 pv k (Iy (ps.take k)))∧Hid (Turn (·=R) w wr)∧w1.heap.size<wr.heap.size) (fun _ i _=>ps.length-(intOf i).toNat)
 case atStart=>exact⟨0,-1,s2,.slice none 0 0,by omega,rfl,rfl,Ep.out,H3.out,by omega,by omega,jB,eG.out,RB.out,Sb.out,World.ownsRow_nil _ _ _ _,Nb.out,by omega⟩
 case round =>
  obtain⟨k,q,s',pv,hk,rfl,rfl,HS,HR,iR,jS,bY,HB,HZ,HP,HO,HT,aY⟩:=hrel;obtain⟨wo,rfl⟩:∃wo:World,wo=wr:=⟨_,rfl⟩;by_cases hlt:k<ps.length
  ·have vW:=HR.out
   rw[List.drop_eq_getElem_cons hlt,gW] at vW;simp only[Bool.and_eq_true,decide_eq_true_eq] at vW;obtain⟨⟨rC,qE⟩,tL⟩:=vW;have aI:s'=bI (ps[k]-q).toNat++(dQ (kG ps[k] (ps.drop (k+1)))++r):=by
    rw[HS.out,List.drop_eq_getElem_cons hlt,kG];simp[dQ]
   have hiv:Iy (ps.take (k+1))=Iy (ps.take k)++[.int .i64 ps[k]]:=by
    unfold Iy;rw[List.take_succ_eq_append_getElem hlt,List.map_append];rfl
   generalize ps[k]=x at *;obtain⟨s3,kP⟩:∃s3,s3=dQ (kG x (ps.drop (k+1)))++r:=⟨_,rfl⟩;rw[←kP] at aI;have lC:s3.length≤1000000000000:=by have:=congrArg List.length aI;rw[List.length_append] at this;omega
   have c:=fun w hb=>Yb R s' (x-q).toNat s3 w hb (by omega) ⟨by omega,aI⟩ (by omega)
   have hxn:((x-q).toNat:Int)=x-q:=by omega
   generalize (x-q).toNat=xn at *;have C:=Hd c;have oU:=Hd kP;have HX3:=Hd tL;have HIV:=Hd hiv;clear c kP tL aI hiv HS HR;go_wp2_with fail;refine(C.out _ HB.out).mono ?_;rintro e w3 ⟨rfl,jJ,t3⟩;rw[hxn];have z3:=t3.blk HZ.out (by omega)
   have p3:=t3.blk HP.out (by omega)
   have o3:=t3.owns HO.out (fun g hg e'=>by have:=(HO.out.lt g hg).1;omega)
   have tt3:=HT.out.trans t3;have axM:w1.heap.size<w3.heap.size:=by have:=t3.size;omega
   obtain⟨a,cap,rfl,lT⟩:=aT o3;obtain⟨pc0,pc1,pf0,pf1⟩:=p3.c2;have iZ:=Hd jJ;have HZ3:=Hd z3;have HP3:=Hd p3;have zi:=Hd o3;have I6:=Hd tt3;clear jJ z3 p3 o3 tt3 t3 HB HZ HP HO HT C;have aQ:=zi.out;have JN:q+(x-q)=x:=by omega
   have hz9:w1.heap.size+1≤w3.heap.size:=by omega
   go_wp2_with (at_builtin;go_must (refine cZ w3 (by rfl) _ _ 199 (by rfl) (w1.heap.size+1) 3 _ i0 (.int .i64 0) 1 8 Tryz.underlying199 hi fJ eU fD rfl (by decide) (by decide) _ _ _ (by rfl) aQ #[.int .i64 x] (by simp[Act.eval]) rfl ?c1 ?c2 hz9 ?_))
   case c1=>simp[Value.oneCell']
   case c2=>omega
   intro g6 cap6 w6 aW dB iL uz tq;have aF:∀{kk:Nat} {cs:Array Value},Blk w3 kk 201 cs→Blk w6 kk 201 cs:=fun {kk cs} hb=>lW hb aQ dB (by decide)
   have z6:=aF HZ3.out;have p6:=aF HP3.out;have b6:Rdr w6 R s3:=lW iZ.out aQ dB (by decide)
   have t6:=I6.out.grown aQ dB (by omega)
   have jP:w1.heap.size<w6.heap.size:=by have:=dB.size;omega
   rw[show Iy (ps.take k)++(#[.int .i64 x]:Array Value).toList=Iy (ps.take (k+1)) from HIV.out.symm] at aW
   obtain⟨qc0,qc1,qf0,qf1⟩:=p6.c2;have J2:=Hd z6;have HP6:=Hd p6;have vX:=Hd b6;have HT6:=Hd t6;have rH:=Hd aW;clear z6 p6 b6 t6 aW dB iL aQ aF pc0 pc1 pf0 pf1 iZ HZ3 HP3 zi I6;have lK:=(vX.out.c2).2.1;have axN:w6.cell? ⟨R,1,none⟩=some (.bool false):=lK;go_wp2_with fail;have t7:=HT6.out.setCell (a:=⟨w1.heap.size,1,none⟩) (.inr (by simp;omega)) (.slice (some ⟨g6,0,none⟩) (k+1) cap6)
   have z7:=J2.out.other ⟨w1.heap.size,1,none⟩ (.slice (some ⟨g6,0,none⟩) (k+1) cap6) (by simp;omega)
   have p7:=HP6.out.set 1 (.slice (some ⟨g6,0,none⟩) (k+1) cap6);have b7:Rdr _ R s3:=Blk.other vX.out ⟨w1.heap.size,1,none⟩ (.slice (some ⟨g6,0,none⟩) (k+1) cap6) (by simp;omega)
   have o7:=ownsRow_setCell_below rH.out (a:=⟨w1.heap.size,1,none⟩) (by simp) (.slice (some ⟨g6,0,none⟩) (k+1) cap6)
   have HT7:=Hd t7;have HZ7:=Hd z7;have HP7:=Hd p7;have vY:=Hd b7;have tO:=Hd o7;clear t7 z7 p7 b7 o7;go_roundw;case rel=>exact⟨k+1,x,s3,_,by omega,by go_num,rfl,oU.out,HX3.out,by omega,by omega,lC,vY.out,HZ7.out,HP7.out,tO.out,HT7.out,by simp;omega⟩
   case measure=>simp[intOf];omega
  ·have jL:k=ps.length:=by omega
   subst jL;have hr:s'=r:=by rw[HS.out,List.drop_length];simp[kG,dQ]
   subst hr;have ho:=HO.out;rw[List.take_length] at ho;obtain⟨a,cap,rfl,lT⟩:=aT ho;obtain⟨pc0,pc1,pf0,pf1⟩:=HP.out.c2;obtain⟨zc0,zc1,zf0,zf1⟩:=HZ.out.c2;have Ua:=Hd ho;clear ho HS HR HO;go_wp2_with fail;obtain⟨s0,s1⟩:=HZ.out.s2;refine bodyPost_ret (v:=.agg #[.int .i64 d,.slice a ps.length cap]) ?_ rfl ?_
   ·simp[results,Tryz.results206,go_sem,s0,s1]
   refine⟨_,rfl,dO (ownsRow_setCell_below (ownsRow_setCell_below Ua.out (by simp;omega) _) (by simp;omega) _) (by omega),Blk.other (Blk.other HB.out _ _ (by simp;omega)) _ _ (by simp;omega),(HT.out.setCell (.inr (by simp)) _).setCell (.inr (by simp)) _⟩
theorem aeu(s:Bytes)(v:Nat)(r:Bytes)(w:World)(hs:s.length≤9223372036854775807)(h:IsVar s v r):
  Calls Tryz.prog 161 #[.string ⟨s.toArray⟩] w fun e w'=>e=.returned (.tuple #[.int .u64 v,.string ⟨r.toArray⟩,.bool true])∧∃m,w'=w.drewN m:=by
 obtain⟨k0,Yu,W9,h9⟩:=OE s v r h;obtain⟨rfl,rfl⟩:=IsVar.one h (Hl s k0 W9 Yu h9);clear h;obtain⟨e1,e2,e3,e4⟩:=W9;have E2:=Hd e2;have E4:=Hd e4;have H9:=Hd h9;clear e2 e4 h9;by_cases hl:s.length≤10;all_goals
  go_enter Tryz.func161,Tryz.ntmps161;go_wp2_with fail;go_loop [11,5,6,7] (fun i x _ _=>∃k:Nat,k≤k0∧i=.int .i64 k∧x=.int .u64 (mG s k:Nat)) (fun i _ _ _=>10-(intOf i).toNat)
  case atStart=>exact⟨0,by omega,rfl,rfl⟩
  case round =>
   obtain⟨k,hk,rfl,rfl⟩:=hrel;have hb:=vF s k;have aiJ:=Md s k;have bY:k<s.length:=by omega
   have gK:((({ data:=s.toArray }:ByteArray)[k]'bY).toNat:Int)=(dH s k:Nat):=fq s k bY;by_cases hlt:k<k0
   ·have aO:=E2.out k hlt
    have hw:=RP s k (dH s k) rfl (by omega) (fun h=>by omega)
    have rC:(127:Int)<(({ data:=s.toArray }:ByteArray)[k]'bY).toNat:=by rw[gK];omega
    rw[←gK] at hw;have HW:=Hd hw;clear hw gK;go_wp2_with fail;go_round;case rel=>exact⟨k+1,by omega,by go_num,int_eq (by rw[←HW.out])⟩
    case measure=>simp[intOf];omega
   ·have jL:k=k0:=by omega
    subst jL;have hw:=RP s k (dH s k) rfl Yu H9.out;rw[←gK] at hw;have rC:(({ data:=s.toArray }:ByteArray)[k]'bY).toNat≤(127:Int):=by rw[gK];omega
    have Ql:(0:Int)≤(({ data:=s.toArray }:ByteArray)[k]'bY).toNat:=by omega
    have FJ:k=9→((({ data:=s.toArray }:ByteArray)[k]'bY).toNat:Int)≤1:=fun h=>by rw[gK];have:=H9.out h;omega
    have FL:0<k→((((({ data:=s.toArray }:ByteArray)[k]'bY).toNat:Int))==0)=false:=fun h=>by
     rw[beq_eq_false_iff_ne,gK];have:=E4.out h;omega
    have Eh:s.drop (k+1)=(s.drop (k+1)):=rfl;have HW:=Hd hw;have H9B:=Hd FJ;have FR:=Hd FL;clear hw gK FJ FL Eh;by_cases h9:k=9
    ·have q9:((k:Int)==9)=true:=by rw[beq_iff_eq];omega
     have q1:=H9B.out h9;have q0:=FR.out (by omega)
     have gY:0<k:=by omega
     clear h9;go_wp2_with fail;have z1:IntKind.i64.wrap ((k:Int)+1)=(k:Int)+1:=IntWalk.i64_in _ (by omega)
     have z2:(0:Int)≤(k:Int)+1:=by omega
     have z3:((k:Int)+1).toNat=k+1:=by omega
     go_quiet (fail);clear z1 z2 z3;go_wp2_with fail;go_ret3;exact⟨yL HW.out (iV s (k+1)),_,rfl⟩
    ·have q9:((k:Int)==9)=false:=by rw[beq_eq_false_iff_ne];omega
     clear h9;by_cases gY:0<k
     ·have q0:=FR.out gY
      go_wp2_with fail;have z1:IntKind.i64.wrap ((k:Int)+1)=(k:Int)+1:=IntWalk.i64_in _ (by omega)
      have z2:(0:Int)≤(k:Int)+1:=by omega
      have z3:((k:Int)+1).toNat=k+1:=by omega
      go_quiet (fail);clear z1 z2 z3;go_wp2_with fail;go_ret3;exact⟨yL HW.out (iV s (k+1)),_,rfl⟩
     ·have gY:k=0:=by omega
      subst gY;have ZJ:=HW.out;rw[show((2:Int) ^ (7*0))=1 from rfl,Int.mul_one] at ZJ
      have HW:=Hd ZJ;clear ZJ;go_wp2_with fail;have z1:IntKind.i64.wrap 1=1:=IntWalk.i64_in _ (by omega)
      go_quiet (fail);clear z1;go_wp2_with fail;go_ret3;exact⟨yL HW.out (iV s (0+1)),_,rfl⟩
theorem NM(R:Nat)(s:Bytes)(v:Nat)(r:Bytes)(w:World)(hb:Rdr w R s)(hs:s.length≤9223372036854775807)(h:IsVar s v r)(hv:v≤2147483647):
  Calls Tryz.prog 179 #[.pointer (some ⟨R,0,none⟩)] w fun e w'=>e=.returned (.int .i64 v)∧Rdr w' R r∧Turn (·=R) w w'∧w'.heap.size=w.heap.size:=by
 have c:=aeu s v r w hs h;obtain⟨c0,c1,f0,f1⟩:=Blk.c2 hb;have C:=Hd c;have HB:=Hd hb;clear c h hb;have hlt:¬2147483647<v:=by omega
 go_enter Tryz.func179,Tryz.ntmps179;go_wp2_with fail;refine C.out.mono ?_;rintro e w1 ⟨rfl,m,lJ⟩;have q1:Q w w1:=by rw[lJ];exact Q.drewN _ _
 have aY:w1.heap.size=w.heap.size:=by rw[lJ];rfl
 have dS:=HB.out.stays q1;obtain⟨d0,d1,g0,g1⟩:=Blk.c2 dS;have jT:=Hd dS;have aC:=Hd q1;have AB:=Hd aY;clear dS q1 c0 c1 f0 f1 lJ aY;go_wp2_with fail;go_ret;exact⟨rfl,Blk.set jT.out 0 (ak r),Turn.setCell (own:=(·=R)) (Turn.of_q aC.out) (.inl rfl) _,by simpa using AB.out⟩
def bit(l:List UInt8)(i:Nat):Bool:=(l.getD (i / 8) 0).toNat.testBit (i%8)
def DK(l:List UInt8)(i:Int):Bool:=decide (0≤i)&&bit l i.toNat
theorem YJ(l:List UInt8)(i:Nat)(h:8*l.length≤i):bit l i=false:=by
 unfold bit;rw[List.getD_eq_getElem?_getD,List.getElem?_eq_none (by omega)]
 simp
theorem bitI_neg(l:List UInt8)(i:Int)(h:i<0):DK l i=false:=by
 simp[DK];omega
theorem bitI_ge(l:List UInt8)(i:Int)(h:8*l.length≤i):DK l i=false:=by
 unfold DK;rw[YJ _ _ (by omega)];simp
theorem abm(l:List UInt8)(i:Nat):DK l i=bit l i:=by simp[DK]
theorem walk_bit(x k:Nat)(hx:x<256):(bits BinOp.and IntKind.u8 ((x:Int) / 2 ^ k) 1==1)=x.testBit k:=by
 have h1:((x:Int) / 2 ^ k)=((x / 2 ^ k:Nat):Int):=by simp
 have h2:x / 2 ^ k<256:=Nat.lt_of_le_of_lt (Nat.div_le_self _ _) hx;rw[h1];have:=u8_and_nat (x / 2 ^ k) 1 h2 (by omega)
 rw[show((1:Nat):Int)=1 from rfl] at this
 rw[this,Nat.and_one_is_mod,Nat.testBit_eq_decide_div_mod_eq];by_cases h:x / 2 ^ k%2=1
 ·simp[h]
 ·have:x / 2 ^ k%2=0:=by omega
  rw[this];simp
theorem bitI_in(l:List UInt8)(i:Int)(hi:0≤i)(h:(i / 8).toNat<l.length):
  DK l i=(l[(i / 8).toNat]).toNat.testBit (i%8).toNat:=by
 unfold DK bit;have e1:i.toNat / 8=(i / 8).toNat:=by omega
 have e2:i.toNat%8=(i%8).toNat:=by omega
 rw[e1,e2,List.getD_eq_getElem?_getD,List.getElem?_eq_getElem h];simp[hi]
def ByteRow(w:World)(B:Nat)(l:List UInt8):Prop :=
 ∃cur e lo hi,w.heap[B]?=some (.cells cur e (lo,hi))∧(hi≤lo∨l.length≤lo)∧∀j (_:j<l.length),cur[j]?=some (.int .u8 l[j].toNat)
theorem ByteRow.cell{w:World}{B:Nat}{l:List UInt8}(h:ByteRow w B l)(j:Nat)(hj:j<l.length):w.cell? ⟨B,j,none⟩=some (.int .u8 l[j].toNat):=by
 obtain⟨cur,e,lo,hi,h1,h2,h3⟩:=h;simp[World.cell?,h1,h3 j hj]
theorem ByteRow.frozen{w:World}{B:Nat}{l:List UInt8}(h:ByteRow w B l)(j:Nat)(hj:j<l.length):w.frozen? ⟨B,j,none⟩=false:=by
 obtain⟨cur,e,lo,hi,h1,h2,h3⟩:=h;simp[World.frozen?,h1];omega
theorem ByteRow.at{w:World}{B:Nat}{l:List UInt8}(h:ByteRow w B l)(j:Nat)(hj:j<l.length):∃x:Nat,x<256∧Hid ((l.getD j 0).toNat=x)∧w.cell? ⟨B,j,none⟩=some (.int .u8 x)∧w.frozen? ⟨B,j,none⟩=false :=
 ⟨l[j].toNat,UInt8.toNat_lt _,by unfold Hid;rw[List.getD_eq_getElem?_getD,List.getElem?_eq_getElem hj];rfl,h.cell j hj,h.frozen j hj⟩
theorem ByteRow.drew{w:World}{B:Nat}{l:List UInt8}(h:ByteRow w B l):ByteRow w.drew B l:=h
theorem ByteRow.drewN{w:World}{B:Nat}{l:List UInt8}(h:ByteRow w B l)(n:Nat):ByteRow (w.drewN n) B l:=h
theorem ByteRow.below{w w':World}{B N:Nat}{l:List UInt8}(h:ByteRow w B l)(hb:Below N w w')(hB:B<N):ByteRow w' B l:=by
 obtain⟨cur,e,lo,hi,h1,h2⟩:=h;exact⟨cur,e,lo,hi,by rw[hb.block B hB];exact h1,h2⟩
theorem ByteRow.alloc{w:World}{B:Nat}{l:List UInt8}(h:ByteRow w B l)(o:Obj):ByteRow (w.alloc o) B l:=by
 obtain⟨cur,e,lo,hi,h1,h2⟩:=h;refine⟨cur,e,lo,hi,?_,h2⟩;rw[Below.heap_alloc _ _ _ (Array.getElem?_eq_some_iff.1 h1).1];exact h1
theorem ByteRow.set{w:World}{B:Nat}{l:List UInt8}(h:ByteRow w B l)(j:Nat)(v:Int)(x:UInt8)(hv:v=x.toNat):ByteRow (w.setCell ⟨B,j,none⟩ (.int .u8 v)) B (l.set j x):=by
 obtain⟨cur,e,lo,hi,h1,h2,h3⟩:=h;subst hv;refine⟨cur.setIfInBounds j (.int .u8 x.toNat),e,lo,hi,?_,by simpa using h2,?_⟩
 ·simp[World.setCell,Array.getElem?_modify,h1]
 ·intro k hk
  have Co:k<l.length:=by simpa using hk
  rw[Array.getElem?_setIfInBounds];have:=h3 k Co;have hs:k<cur.size:=(Array.getElem?_eq_some_iff.1 this).1;by_cases e:j=k
  ·subst e;simp[hs]
  ·simp[e,this]
theorem ByteRow.made(w:World)(l:List UInt8)(cap:Nat)(e:TypeId):ByteRow (w.alloc (.cells (bytesRow ⟨l.toArray⟩ cap) e ((bytesRow ⟨l.toArray⟩ cap).size,(bytesRow ⟨l.toArray⟩ cap).size+1))) w.heap.size l:=by
 refine⟨_,_,_,_,heap_alloc_new w _,Or.inr (by simp[bytesRow]),?_⟩
 intro j hj;have:=bytesRow_at ⟨l.toArray⟩ cap j (by simpa using hj)
 simpa using this
theorem ByteRow.back{P:Program}{w:World}{B:Nat}{l:List UInt8}(h:ByteRow w B l)(src dst e:TypeId)(cap:Nat)(hs:P.underlying src=some (.slice e))(he:P.underlying e=some (.int .u8))(hd:P.underlying dst=some .string):
  (convert src dst (.slice (some ⟨B,0,none⟩) l.length cap)).run P w=.ok (.string ⟨l.toArray⟩) w :=
 run_convert_bytes_back w src dst e _ cap l hs he hd (fun j hj=>by
  have:(⟨B,0,none⟩:Addr).add j=⟨B,j,none⟩:=by unfold Addr.add;split<;>simp_all
  rw[this];exact h.cell j hj)
def wL(x k:Nat)(on:Bool):Nat:=if on then x ||| 2 ^ k else x &&& (255-2 ^ k)
def Jh(l:List UInt8)(i:Nat)(on:Bool):List UInt8:=l.set (i / 8) (UInt8.ofNat (wL (l.getD (i / 8) 0).toNat (i%8) on))
def nR(l:List UInt8)(start:Nat)(on:Bool):Nat→List UInt8
 | 0=>l
 | k+1=>Jh (nR l start on k) (start+k) on
theorem aas(l:List UInt8)(i:Nat)(on:Bool):(Jh l i on).length=l.length:=by simp[Jh]
theorem DL(l:List UInt8)(s:Nat)(on:Bool)(k:Nat):(nR l s on k).length=l.length:=by
 induction k with
 | zero=>rfl
 | succ k ih=>rw[nR,aas,ih]
theorem SV(k:Nat)(hk:k<8):((2:Int) ^ k%256)=((2 ^ k:Nat):Int):=by
 have h:∀k:Fin 8,((2:Int) ^ k.val%256)=((2 ^ k.val:Nat):Int):=by decide
 exact h ⟨k,hk⟩
theorem NP(k:Nat)(hk:k<8):2 ^ k<256:=by
 have h:∀k:Fin 8,2 ^ k.val<256:=by decide
 exact h ⟨k,hk⟩
theorem DN(x k:Nat)(on:Bool)(hx:x<256)(hk:k<8):wL x k on<256:=by
 unfold wL;split
 ·exact Nat.or_lt_two_pow (n:=8) hx (NP k hk)
 ·exact Nat.lt_of_le_of_lt Nat.and_le_left hx
theorem clear_or(x k:Nat)(hx:x<256)(hk:k<8):(x &&& (255-2 ^ k)) ||| 2 ^ k=x ||| 2 ^ k:=by
 have h:∀(x:Fin 256) (k:Fin 8),(x.val &&& (255-2 ^ k.val)) ||| 2 ^ k.val=x.val ||| 2 ^ k.val:=by decide +kernel
 exact h ⟨x,hx⟩ ⟨k,hk⟩
theorem NQ(x k:Nat)(hx:x<256)(hk:k<8):bits BinOp.andNot IntKind.u8 (x:Int) (2 ^ k%256)=((wL x k false:Nat):Int):=by
 rw[SV k hk,u8_andNot_nat _ _ hx (NP k hk)];rfl
theorem walk_turn(x k:Nat)(hx:x<256)(hk:k<8):bits BinOp.or IntKind.u8 (bits BinOp.andNot IntKind.u8 (x:Int) (2 ^ k%256)) (2 ^ k%256)=((wL x k true:Nat):Int):=by
 rw[NQ x k hx hk,SV k hk,u8_or_nat _ _ (DN x k false hx hk) (NP k hk)];unfold wL;simp[clear_or x k hx hk]
theorem set_set(l:List UInt8)(i:Nat)(a b:UInt8):(l.set i a).set i b=l.set i b:=by simp
theorem ofNat_toNat(n:Nat)(h:n<256):((UInt8.ofNat n).toNat:Int)=n:=by
 rw[UInt8.toNat_ofNat'];omega
def cnt(l:List UInt8):Nat→Nat
 | 0=>0
 | k+1=>cnt l k+if bit l k then 0 else 1
def jr(n:Int):List UInt8:=if 1≤n∧n≤32768 then List.replicate ((n+7) / 8).toNat 0 else []
theorem ByteRow.zeros(w:World)(n:Nat)(e:TypeId):ByteRow (w.alloc (.cells (madeCells #[.int .u8 0] n) e)) w.heap.size (List.replicate n 0):=by
 refine⟨_,_,_,_,heap_alloc_new w _,Or.inl (Nat.le_refl _),?_⟩;intro j hj;have Es:j<n:=by simpa using hj
 simp[madeCells,Es,Nat.mod_one]
def ext(rs:List (Nat×Nat)):List Value:=rs.flatMap fun r=>[.int .i64 r.1,.int .i64 r.2]
end
section
def tail(l:List UInt8):Nat→Nat
 | 0=>0
 | k+1=>if bit l k then 0 else tail l k+1
theorem mask_bit(k j:Nat)(hk:k<8)(hj:j<8):(255-2 ^ k).testBit j=decide (j≠k):=by
 have h:∀(k j:Fin 8),(255-2 ^ k.val).testBit j.val=decide (j.val≠k.val):=by decide +kernel
 exact h ⟨k,hk⟩ ⟨j,hj⟩
theorem aev(x k j:Nat)(on:Bool)(hk:k<8)(hj:j<8):(wL x k on).testBit j=if j=k then on else x.testBit j:=by
 unfold wL;cases on with
 | true =>
  simp only[if_true,Nat.testBit_or,Nat.testBit_two_pow];by_cases h:j=k
  ·simp[h]
  ·simp[h];omega
 | false =>
  simp only[Bool.false_eq_true,if_false,Nat.testBit_and,mask_bit k j hk hj];by_cases h:j=k<;>simp[h]
theorem agV(l:List UInt8)(i j:Nat)(on:Bool)(hi:i<8*l.length):bit (Jh l i on) j=if j=i then on else bit l j:=by
 have hi8:i / 8<l.length:=by omega
 unfold bit Jh;rw[List.getD_eq_getElem?_getD,List.getElem?_set];by_cases h:i / 8=j / 8
 ·rw[if_pos h,if_pos hi8,Option.getD_some,UInt8.toNat_ofNat',Nat.mod_eq_of_lt (DN _ _ _ (UInt8.toNat_lt _) (Nat.mod_lt _ (by omega))),
   aev _ _ _ _ (Nat.mod_lt _ (by omega)) (Nat.mod_lt _ (by omega)),h]
  by_cases h2:j=i
  ·rw[if_pos (by omega),if_pos h2]
  ·rw[if_neg (by omega),if_neg h2]
 ·rw[if_neg h,if_neg (by intro e;exact h (by rw[e])),←List.getD_eq_getElem?_getD]
theorem JY(l:List UInt8)(s c j:Nat)(on:Bool)(h:c+s≤8*l.length):bit (nR l s on c) j=if s≤j∧j<s+c then on else bit l j:=by
 induction c with
 | zero=>rw[nR,if_neg (by omega)]
 | succ c ih =>
  rw[nR,agV _ _ _ _ (by rw[DL];omega),ih (by omega)]
  by_cases h1:j=s+c
  ·rw[if_pos h1,if_pos (by omega)]
  ·rw[if_neg h1]
   by_cases h2:s≤j∧j<s+c
   ·rw[if_pos h2,if_pos (by omega)]
   ·rw[if_neg h2,if_neg (by omega)]
theorem byte_ext(x y:Nat)(hx:x<256)(hy:y<256)(h:∀j,j<8→x.testBit j=y.testBit j):x=y:=by
 apply Nat.eq_of_testBit_eq;intro i;by_cases hi:i<8
 ·exact h i hi
 ·have h8:2 ^ 8≤2 ^ i:=Nat.pow_le_pow_right (by decide) (by omega)
  rw[Nat.testBit_lt_two_pow (by omega),Nat.testBit_lt_two_pow (by omega)]
theorem abn(a b:List UInt8)(hl:a.length=b.length)(h:∀j,j<8*a.length→bit a j=bit b j):a=b:=by
 refine List.ext_getElem hl (fun k h1 h2=>?_)
 apply UInt8.toNat_inj.1;refine byte_ext _ _ (UInt8.toNat_lt _) (UInt8.toNat_lt _) (fun j hj=>?_)
 have:=h (8*k+j) (by omega)
 unfold bit at this;rw[show(8*k+j) / 8=k by omega,show(8*k+j)%8=j by omega,List.getD_eq_getElem?_getD,List.getD_eq_getElem?_getD,List.getElem?_eq_getElem h1,List.getElem?_eq_getElem h2] at this
 exact this
end
end Go.Proofs.YthijhicdmnoifaaGreatDoor
