/- Joined texts of one proof. -/
import Derived.Test.YthijhicdmnoifaaGreatDoorRWPostI
set_option linter.unusedSimpArgs false
set_option linter.unusedVariables false
set_option linter.unnecessarySimpa false
set_option maxRecDepth 100000
set_option maxHeartbeats 8000000
namespace Go.Proofs.YthijhicdmnoifaaGreatDoor
section
mutual
def dh:QL→Nat
 | .mk k s m sh n=>1+dG m+dG sh+dG n
def dG:List QL→Nat
 | []=>0
 | q::qs=>dh q+dG qs
end
mutual
def uK:QL→Nat
 | .mk k s m sh n=>max (max (lg m) (lg sh)) (lg n)+1
def lg:List QL→Nat
 | []=>0
 | q::qs=>max (uK q) (lg qs)
end
def uM(k:Int)(s:Bytes)(n:Nat):Bool :=
 if k=1 then s.isEmpty&&decide (n=0)
 else if k=2∨k=3∨k=4 then Lib.validD s&&decide (s.length≤200)&&decide (n=0)
 else if k=5 then s.isEmpty
 else false
mutual
def iD:QL→Bool
 | .mk k s m sh n=>uM k s (m.length+sh.length+n.length)&&(dX m&&dX sh&&dX n)
def dX:List QL→Bool
 | []=>true
 | q::qs=>iD q&&dX qs
end
def wQ(q:QL):Bool:=decide (dh q≤100)&&decide (uK q≤20)&&iD q
theorem PN(q:QL):1≤dh q:=by cases q;rw[dh];omega
theorem jW(qs:List QL):qs.length≤dG qs:=by
 induction qs with
 | nil=>exact Nat.zero_le _
 | cons q qs ih=>rw[dG,List.length_cons];have:=PN q;omega
theorem uN{qs:List QL}{q:QL}(h:q∈qs):dh q≤dG qs:=by
 induction qs with
 | nil=>simp at h
 | cons x qs ih =>
  rw[dG];rcases List.mem_cons.1 h with rfl|h
  ·omega
  ·have:=ih h;omega
theorem yP{qs:List QL}{q:QL}(hn:dX qs=true)(h:q∈qs):iD q=true:=by
 induction qs with
 | nil=>simp at h
 | cons x qs ih =>
  rw[dX,Bool.and_eq_true] at hn;rcases List.mem_cons.1 h with rfl|h
  ·exact hn.1
  ·exact ih hn.2 h
theorem Ak(a b:List QL):dX (a++b)=(dX a&&dX b):=by
 induction a with
 | nil=>simp[dX]
 | cons x a ih=>rw[List.cons_append,dX,dX,ih,Bool.and_assoc]
theorem uG(a b:List QL):dG (a++b)=dG a+dG b:=by
 induction a with
 | nil=>simp[dG]
 | cons x a ih=>rw[List.cons_append,dG,dG,ih];omega
theorem Ib(a b:List QL):lg (a++b)=max (lg a) (lg b):=by
 induction a with
 | nil=>simp[lg]
 | cons x a ih=>rw[List.cons_append,lg,lg,ih];omega
theorem ahn{k:Int}{s:Bytes}{n:Nat}(h:uM k s n=true):1≤k∧k≤5∧s.length≤200:=by
 unfold uM at h;split at h
 ·rename_i e;rw[Bool.and_eq_true,List.isEmpty_iff] at h;rw[h.1];simp only[List.length_nil];omega
 ·split at h
  ·rename_i e
   rw[Bool.and_eq_true,Bool.and_eq_true,decide_eq_true_eq,decide_eq_true_eq] at h;omega
  ·split at h
   ·rename_i e;rw[List.isEmpty_iff] at h;rw[h];simp only[List.length_nil];omega
   ·cases h
theorem Ky{k:Int}{s:Bytes}{m sh n:List QL}(h:iD (.mk k s m sh n)=true):(1≤k∧k≤5∧s.length≤200)∧dX m=true∧dX sh=true∧dX n=true:=by
 rw[iD,Bool.and_eq_true,Bool.and_eq_true,Bool.and_eq_true] at h;exact⟨ahn h.1,h.2.1.1,h.2.1.2,h.2.2⟩
mutual
theorem LV:∀q:QL,iD q=true→Fh q=true
 | .mk k s m sh n,h=>by
  obtain⟨⟨h1,h2,_⟩,h3,h4,h5⟩:=Ky h
  rw[Fh,decide_eq_true h1,decide_eq_true h2,D7 m h3,D7 sh h4,D7 n h5];rfl
theorem D7:∀qs:List QL,dX qs=true→xX qs=true
 | [],_=>by rw[xX]
 | q::qs,h=>by
  rw[dX,Bool.and_eq_true] at h
  rw[xX,LV q h.1,D7 qs h.2];rfl
end
theorem LW(s:Bytes)(h:s.length≤2000):(ay s).length≤2001:=by
 unfold ay kY;rw[List.length_map];exact(lM s h).1
theorem I8(wt:Bytes→Nat)(hw:∀t,wt t≤63)(p:bP):bB wt p≤63*p.length:=by
 unfold bB;induction p with
 | nil=>simp
 | cons x p ih=>rw[List.map_cons,List.sum_cons,List.length_cons];have:=hw x.1;omega
theorem Kz(p l:bP):kC p l≤l.length:=by
 unfold kC;split
 ·exact Nat.zero_le _
 ·exact List.length_filter_le _ _
theorem Oa(f:Bytes)(l:bP):jl f l≤l.length:=by
 unfold jl;split
 ·exact Nat.zero_le _
 ·exact List.length_filter_le _ _
def xZ:Nat:=63*2001*2001
theorem prod_le{a b:Nat}(ha:a≤63*2001)(hb:b≤2001):a*b≤xZ:=Nat.mul_le_mul ha hb
mutual
theorem Jp(wt:Bytes→Nat)(hw:∀t,wt t≤63)(t:bP)(ht:t.length≤2001):∀q:QL,iD q=true→jK wt q t≤dh q*xZ
 | .mk k s m sh n,h=>by
  obtain⟨⟨h1,h2,h6⟩,h3,h4,h5⟩:=Ky h
  have e1:=Zj wt hw t ht m h3
  have e2:=Zk wt hw t ht sh h4
  have hp:=LW s (by omega)
  have xw:((ay s).take 1).length≤2001:=by rw[List.length_take];omega
  have b1:=prod_le (Nat.le_trans (I8 wt hw (ay s)) (Nat.mul_le_mul_left 63 hp)) (Nat.le_trans (Kz (ay s) t) ht)
  have b2:=prod_le (Nat.le_trans (I8 wt hw ((ay s).take 1)) (Nat.mul_le_mul_left 63 xw)) (Nat.le_trans (Kz ((ay s).take 1) t) ht)
  have b3:=Nat.le_trans (Oa (bQ s) t) ht
  have hl:2001≤xZ:=by decide
  have aY:xZ≤dh (.mk k s m sh n)*xZ:=Nat.le_mul_of_pos_left _ (PN _)
  rw[jK]
  split
  ·omega
  ·split
   ·omega
   ·split
    ·omega
    ·split
     ·omega
     ·rw[dh,Nat.add_mul,Nat.add_mul,Nat.add_mul];omega
theorem Zj(wt:Bytes→Nat)(hw:∀t,wt t≤63)(t:bP)(ht:t.length≤2001):∀qs:List QL,dX qs=true→bX wt qs t≤dG qs*xZ
 | [],_=>by rw[bX];exact Nat.zero_le _
 | q::qs,h=>by
  rw[dX,Bool.and_eq_true] at h
  have:=Jp wt hw t ht q h.1
  have:=Zj wt hw t ht qs h.2
  rw[bX,dG,Nat.add_mul];omega
theorem Zk(wt:Bytes→Nat)(hw:∀t,wt t≤63)(t:bP)(ht:t.length≤2001):∀qs:List QL,dX qs=true→DV wt qs t≤dG qs*xZ
 | [],_=>by rw[DV];exact Nat.zero_le _
 | q::qs,h=>by
  rw[dX,Bool.and_eq_true] at h
  have:=Jp wt hw t ht q h.1
  have:=Zk wt hw t ht qs h.2
  rw[DV,dG,Nat.add_mul]
  split<;>omega
end
def pJ:Nat:=1000000000000
theorem abQ(l:List au)(wt:Bytes→Nat)(hw:∀t,wt t≤63)(hl:∀d∈l,d.2.length≤2000)(q:QL)(hn:iD q=true)(hs:dh q≤1000)(i s:Nat)(h:fO l wt q i=some s):i<l.length∧s≤pJ:=by
 rw[UU l wt i q (LV q hn)] at h;unfold BZ at h;cases hd:l[i]? with
 | none=>rw[hd] at h;cases h
 | some d =>
  rw[hd] at h;refine⟨(List.getElem?_eq_some_iff.1 hd).1,?_⟩;unfold lH at h;simp only at h;split at h
  ·cases h
   have h1:=Jp wt hw (aA d.2) (lM d.2 (hl d (List.mem_of_getElem? hd))).1 q hn;have h2:dh q*xZ≤1000*xZ:=Nat.mul_le_mul_right _ hs;have h3:1000*xZ≤pJ:=by decide
   omega
  ·cases h
theorem wtL_le(ds:List au)(h:ds.length<2 ^ 63)(t:Bytes):wtL ds t≤63:=YS _ _ h
def Am(g:Bytes)(xs:List aZ):Nat:=(xs.filter fun x => !bit g x.1.toNat).length
theorem abR(a b:List au)(t:Bytes):qZ (a++b) t=qZ a t+qZ b t:=by unfold qZ;rw[List.filter_append,List.length_append]
theorem Wy(d:au)(l:List au)(t:Bytes):qZ (d::l) t=(if placesIn d.2 t=[] then 0 else 1)+qZ l t:=by
 unfold qZ;by_cases h:placesIn d.2 t=[]
 ·rw[if_pos h,List.filter_cons_of_neg (by simp[h])];omega
 ·rw[if_neg h,List.filter_cons_of_pos (by simp[h]),List.length_cons];omega
theorem aho(g:Bytes)(x:aZ)(xs:List aZ):Am g (x::xs)=(if bit g x.1.toNat then 0 else 1)+Am g xs:=by
 unfold Am;cases h:bit g x.1.toNat with
 | true=>rw[List.filter_cons_of_neg (by simp[h])];simp
 | false=>rw[List.filter_cons_of_pos (by simp[h]),List.length_cons];simp;omega
theorem ahp(g:Bytes)(xs:List aZ)(k:Nat)(h:k<xs.length):Am g (xs.take (k+1))=Am g (xs.take k)+(if bit g xs[k].1.toNat then 0 else 1):=by
 unfold Am;rw[List.take_succ_eq_append_getElem h,List.filter_append,List.length_append];cases hb:bit g xs[k].1.toNat<;>simp[hb]
theorem haveP_le(g:Bytes)(xs:List aZ):Am g xs≤xs.length:=List.length_filter_le _ _
theorem have_part(t g:Bytes)(l:List au)(i:Nat):Am g (bf t l i)=qZ (nC g l i) t:=by
 induction l generalizing i with
 | nil=>rfl
 | cons d l ih =>
  rw[bf,nC];by_cases hp:placesIn d.2 t=[]
  ·rw[if_pos hp,ih]
   by_cases hb:bit g i=true
   ·rw[if_pos hb]
   ·rw[if_neg hb,Wy,if_pos hp,Nat.zero_add]
  ·rw[if_neg hp,aho,ih]
   simp only[Int.toNat_natCast];by_cases hb:bit g i=true
   ·rw[if_pos hb,if_pos hb,Nat.zero_add]
   ·rw[if_neg hb,if_neg hb,Wy,if_neg hp]
theorem ahq(t:Bytes)(l:List au)(i:Nat):∀x∈bf t l i,(i:Int)≤x.1:=by
 induction l generalizing i with
 | nil=>intro x h;simp[bf] at h
 | cons d l ih =>
  intro x h;rw[bf] at h;split at h
  ·have:=ih (i+1) x h;omega
  ·rcases List.mem_cons.1 h with rfl|h
   ·exact Int.le_refl _
   ·have:=ih (i+1) x h;omega
theorem fromP_all(t:Bytes)(l:List au):iY (bf t l 0) 0=bf t l 0:=by
 unfold iY;rw[List.filter_eq_self];intro x hx;have:=ahq t l 0 x hx;exact decide_eq_true (by omega)
theorem Zl(ps:List aG)(k:Nat)(h:k<ps.length):aH (ps.take (k+1))=aH (ps.take k)++rY ps[k]:=by
 rw[List.take_succ_eq_append_getElem h,qO];simp[aH]
theorem have_step(ps:List aG)(t:Bytes)(k:Nat)(h:k<ps.length):qZ (aH (ps.take (k+1))) t=qZ (aH (ps.take k)) t+Am ps[k].2 (bf t ps[k].1 0):=by
 rw[Zl ps k h,abR,have_part];rfl
theorem abS(l:List au)(t:Bytes):qZ l t≤l.length:=List.length_filter_le _ _
theorem Fj(ps:List aG)(h:∀p∈ps,p.1.length≤500):(aH ps).length≤500*ps.length:=by
 induction ps with
 | nil=>exact Nat.zero_le _
 | cons p ps ih =>
  rw[show aH (p::ps)=rY p++aH ps from rfl,List.length_append,List.length_cons]
  have h1:=ih (fun q hq=>h q (by simp[hq]))
  have h2:=(YM p.2 p.1 0).length_le;have h3:=h p (by simp)
  have h4:(rY p).length≤p.1.length:=h2;omega
def jX(l:List au)(g:Bytes)(F:DF)(n:Nat):List dY:=(zD F n).filterMap fun x=>if bit g x.1 then none else(l[x.1]?).map fun d=>(d.1,x.2)
theorem aaF(l:List au)(g:Bytes)(F:DF)(doc n:Nat)(h:doc≤n)(hx:jd F doc none):jX l g F n=jX l g F doc:=by
 unfold jX;rw[Wx F doc n h (fun j h1 _=>hx j h1)]
theorem aaG(l:List au)(g:Bytes)(F:DF)(doc d s:Nat)(hx:jd F doc (some (d,s)))(e:au)(he:l[d]?=some e):jX l g F (d+1)=jX l g F doc++(if bit g d then [] else [(e.1,s)]):=by
 unfold jX;rw[ahm F doc d s hx,List.filterMap_append];congr 1;cases h:bit g d<;>simp[h,he]
theorem aaH(l:List au)(g:Bytes)(F:DF):jX l g F 0=[]:=rfl
theorem abT(l:List au)(g:Bytes)(wt:Bytes→Nat)(q:QL)(hq:Fh q=true):jX l g (fO l wt q) l.length=(nC g l 0).filterMap (kZ wt q):=by
 have h:=part_hits l g wt q 0 l.length;rw[List.take_length] at h;rw[←h];unfold jX zD;have e:fO l wt q=BZ l wt q:=funext fun i=>UU l wt i q hq
 rw[e];simp
theorem hits_step(ps:List aG)(wt:Bytes→Nat)(q:QL)(k:Nat)(h:k<ps.length)(hq:Fh q=true):
  (aH (ps.take (k+1))).filterMap (kZ wt q)=(aH (ps.take k)).filterMap (kZ wt q)++jX ps[k].1 ps[k].2 (fO ps[k].1 wt q) ps[k].1.length:=by
 rw[Zl ps k h,List.filterMap_append,abT _ _ _ _ hq];rfl
theorem abU(l:List au)(g:Bytes)(F:DF)(n:Nat):(jX l g F n).length≤n:=by
 unfold jX zD;refine Nat.le_trans (List.length_filterMap_le _ _) (Nat.le_trans (List.length_filterMap_le _ _) ?_);simp
end
section
open Go.RowKit
def markD(D:Nat):Deferred:={ target:=.collected D,args:=#[] }
def Marks(n₀:Nat)(W:World)(ds:List Nat):Prop:=ds.Nodup∧∀D∈ds,n₀≤D∧W.heap[D]?=some (.deferred (some []))
theorem Marks.nil(n₀:Nat)(W:World):Marks n₀ W []:=⟨List.nodup_nil,fun D h=>by simp at h⟩
theorem Marks.lt{n₀:Nat}{W:World}{ds:List Nat}(h:Marks n₀ W ds):∀D∈ds,D<W.heap.size:=fun D hD=>aU (h.2 D hD).2
theorem Marks.keeps{n₀:Nat}{W W':World}{ds:List Nat}(h:Marks n₀ W ds)(hk:∀D∈ds,W'.heap[D]?=W.heap[D]?):Marks n₀ W' ds :=
 ⟨h.1,fun D hD=>⟨(h.2 D hD).1,(hk D hD).trans (h.2 D hD).2⟩⟩
theorem Marks.cons{n₀:Nat}{W:World}{ds:List Nat}{D:Nat}(h:Marks n₀ W ds)(hD:W.heap[D]?=some (.deferred (some [])))(hn:n₀≤D)(att:D∉ds):Marks n₀ W (D::ds) :=
 ⟨List.nodup_cons.2 ⟨att,h.1⟩,fun E hE=>by
  rcases List.mem_cons.1 hE with rfl|hE
  ·exact⟨hn,hD⟩
  ·exact h.2 E hE⟩
theorem PO{P:Program}{F:Fence}{n:Nat}{fn:Func}{tmps:Array Value}{R:Ending→World→Prop}{u:FrameMode}(n₀:Nat)(hu:u≠.run):∀(ds:List Nat) (W:World),Marks n₀ W ds →
  (∀W',Itk (fun _=>False) n₀ W W'→LeavesInM F n P fn tmps R [] u W')→LeavesInM F n P fn tmps R (ds.map markD) u W
 | [],W,_,h=>h W (Itk.refl _ _ _)
 | D::ds,W,hm,h=>by
  obtain⟨h1,h2⟩:=List.nodup_cons.1 hm.1
  obtain⟨h3,h4⟩:=hm.2 D (by simp)
  refine⟨hu,.inl ⟨D,W.putObj D (.deferred none),rfl,run_takeDeferred h4,?_⟩⟩
  refine PO n₀ hu ds _ ⟨h2,fun E hE=>⟨(hm.2 E (by simp[hE])).1,?_⟩⟩ (fun W' q=>h W' ((Itk.put _ h4 rfl h3).trans q))
  rw[World.putObj_heap_other (fun e=>h1 (by rw[←e];exact hE))]
  exact(hm.2 E (by simp[hE])).2
abbrev opV(o:OpL):Value:=.agg #[.bool o.1,ak o.2.1,ak o.2.2]
theorem aeY(id text:Bytes)(w:World)(h1:id.length≤9223372036854775807)(h2:text.length≤9223372036854775807)(hT:Tabs w):
  Calls Tryz.prog 35 #[opV (false,(id,text))] w fun e w'=>e=.returned (.bool (iT id text))∧Q w w':=by
 have c:=YU id text (w.alloc (.cells #[.bool false,ak id,ak text] 49)) h1 h2 (hT.stays (Q.alloc _ _));have C:=Hd c;clear c hT;go_enter Tryz.func35,Tryz.ntmps35;go_wp2_with fail;refine C.out.mono ?_;rintro e w1 ⟨rfl,q1⟩;have hq:=(Q.alloc w (.cells #[.bool false,ak id,ak text] 49)).trans q1;have HQ:=Hd hq;clear hq q1;go_wp2_with fail;go_ret;exact⟨rfl,HQ.out⟩
def goneB(id text:Bytes):Bool := !id.isEmpty&&decide (id.length≤40)&&Lib.validD id&&text.isEmpty
theorem aeZ(id text:Bytes)(w:World)(h1:id.length≤9223372036854775807)(h2:text.length≤9223372036854775807)(hT:Tabs w):
  Calls Tryz.prog 35 #[opV (true,(id,text))] w fun e w'=>e=.returned (.bool (goneB id text))∧Q w w':=by
 have Qw:Tabs (w.alloc (.cells #[.bool true,ak id,ak text] 49)):=hT.stays (Q.alloc _ _);have HT:=Hd Qw;clear hT Qw;have hR:goneB id text=(!id.isEmpty&&decide (id.length≤40)&&Lib.validD id&&text.isEmpty):=rfl;generalize goneB id text=R at *;by_cases he:id=[]
 ·subst he
  have HR:=Hd hR;clear hR;go_enter Tryz.func35,Tryz.ntmps35;go_wp2_with fail;go_ret;exact⟨by rw[HR.out];rfl,Q.alloc _ _⟩
 ·have aF:id.isEmpty=false:=by simpa using he
  rw[aF] at hR;by_cases TV:id.length≤40
  ·rw[decide_eq_true TV] at hR
   have HR:=Hd hR;have HE:=Hd he;clear hR he;cases hv:Lib.validD id with
   | false =>
    have HV:=Hd hv;clear hv;go_enter Tryz.func35,Tryz.ntmps35;go_wp2_with fail;refine(CY id _ h1 HT.out).mono ?_;rintro e w1 ⟨rfl,q1⟩;rw[HV.out];have HQ:=Hd q1;clear q1;go_wp2_with fail;go_ret;exact⟨by rw[HR.out,HV.out];rfl,(Q.alloc _ _).trans HQ.out⟩
   | true =>
    have HV:=Hd hv;clear hv;cases ht:text.isEmpty with
    | true =>
     obtain rfl:text=[]:=by simpa using ht
     have HX:=Hd ht;clear ht;go_enter Tryz.func35,Tryz.ntmps35;go_wp2_with fail;refine(CY id _ h1 HT.out).mono ?_;rintro e w1 ⟨rfl,q1⟩;rw[HV.out];have hc:w1.cell? ⟨w.heap.size,2,none⟩=some (.string ⟨([]:Bytes).toArray⟩):=ah q1 (by simp only[World.cell?,heap_alloc_new];simp)
     have HQ:=Hd q1;clear q1;go_wp2_with fail;go_ret;exact⟨by rw[HR.out,HV.out];rfl,(Q.alloc _ _).trans HQ.out⟩
    | false =>
     have KO:text≠[]:=by simpa using ht
     have HX:=Hd ht;have HXE:=Hd KO;clear ht KO;go_enter Tryz.func35,Tryz.ntmps35;go_wp2_with fail;refine(CY id _ h1 HT.out).mono ?_;rintro e w1 ⟨rfl,q1⟩;rw[HV.out];have hc:w1.cell? ⟨w.heap.size,2,none⟩=some (.string ⟨text.toArray⟩):=ah q1 (by simp only[World.cell?,heap_alloc_new];simp)
     have HQ:=Hd q1;clear q1;go_wp2_with fail;go_ret;exact⟨by rw[HR.out,HV.out,HX.out];simp,(Q.alloc _ _).trans HQ.out⟩
  ·rw[decide_eq_false TV] at hR
   have HR:=Hd hR;have HE:=Hd he;clear hR he;go_enter Tryz.func35,Tryz.ntmps35;go_wp2_with fail;go_ret;exact⟨by rw[HR.out];simp,Q.alloc _ _⟩
theorem ahr(o:OpL)(w:World)(h1:o.2.1.length≤9223372036854775807)(h2:o.2.2.length≤9223372036854775807)(hT:Tabs w):
  Calls Tryz.prog 35 #[opV o] w fun e w'=>e=.returned (.bool (dZ o))∧Q w w':=by
 obtain⟨b,id,text⟩:=o;cases b with
 | false=>exact aeY id text w h1 h2 hT
 | true=>exact aeZ id text w h1 h2 hT
abbrev Cb:=Nat×Bytes
abbrev iU(l:List Cb):List Value:=l.flatMap fun p=>[.pointer (some ⟨p.1,0,none⟩),ak p.2]
def MI(w:World)(v:Value)(l:List Cb):Prop:=Sl w v l.length 2 (iU l)
theorem iB:(Tryz.prog.info? 70).map (fun i=>(i.zero,i.size,i.bytes))=some (some (.agg #[.pointer none,ak []]),2,24):=by kernel_rfl
theorem uO(l:List Cb):∀u∈iU l,u.oneCell'=true:=by
 intro u hu;obtain⟨d,_,hd⟩:=List.mem_flatMap.1 hu;simp at hd;rcases hd with rfl|rfl<;>simp[Value.oneCell']
theorem ae0(v:Value)(l:List Cb)(w:World)(hv:MI w v l)(hn:l.length≤1000000):
  Calls Tryz.prog 36 #[v] w fun e w'=>∃v',e=.returned v'∧w'.ownsRow w.heap.size 70 2 v' l.length (iU l)∧Q w w':=by
 obtain⟨i0,hi,fJ,eU,fD⟩:=info_parts iB;obtain⟨um,a,cap,rfl,aJ⟩:=hv;have rD:(iU l).length=l.length*2:=um;have jM:=uO l;cases a with
 | none =>
  have h0:l.length=0:=by
   by_cases h:l.length=0
   ·exact h
   ·obtain⟨b,off,e,_⟩:=aJ (by omega)
    cases e
  obtain rfl:l=[]:=List.eq_nil_of_length_eq_zero h0;clear aJ um rD jM;go_enter Tryz.func36,Tryz.ntmps36;go_wp2_with fail;rw[Lib.run_eql_slice_nil _ _ _ _ _ _ _ _ Tryz.underlying29];go_wp2_with fail;go_ret;exact⟨_,rfl,World.ownsRow_nil _ _ _ _,Q.refl _⟩
 | some ad =>
  have bC:∀j u,(iU l)[j]?=some u→(w.alloc (.cells #[] 70)).cell? (ad.add j)=some u:=by
   intro j u hu;have iI:j<(iU l).length:=(List.getElem?_eq_some_iff.1 hu).1;obtain⟨b,off,e,hc⟩:=aJ (by omega)
   cases e;rw[show(⟨b,off,none⟩:Addr).add j=⟨b,off+j,none⟩ by unfold Addr.add;split<;>simp_all]
   exact ah (Q.alloc _ _) (hc j u hu)
  have aQ:(w.alloc (.cells #[] 70)).ownsRow w.heap.size 70 2 (.slice (some ⟨w.heap.size,0,none⟩) 0 0) 0 []:=⟨rfl,.inr ⟨w.heap.size,0,#[],rfl,Nat.le_refl _,heap_alloc_new _ _,by simp,by unfold maxLen;omega,rfl,rfl⟩⟩
  have ru:0+l.length≤maxLen:=by unfold maxLen;omega
  have gB:(0+l.length)*24≤140737488355328:=by omega
  have fC:w.heap.size≤(w.alloc (.cells #[] 70)).heap.size:=by simp
  generalize iU l=xs at *;clear aJ;go_enter Tryz.func36,Tryz.ntmps36;go_wp2_with fail;rw[Lib.run_eql_slice_nil _ _ _ _ _ _ _ _ Tryz.underlying29];go_wp2_with (at_builtin;go_must (refine wpList_append_own (w.alloc (.cells #[] 70)) (by rfl) _ _ 29 (by rfl) w.heap.size 70 i0 (.agg #[.pointer none,ak []]) 2 24 Tryz.underlying29 hi fJ eU fD rfl (by decide) _ 0 [] (by rfl) aQ ad l.length cap xs (by rfl) rD bC jM ru gB fC ?_))
  intro v' w' ho hg _;have hb:Below w.heap.size w w':=((Below.refl w.heap.size w).alloc (Nat.le_refl _) _).grown hg fC (fun k hk=>by simp[Value.ownBlock] at hk;omega)
  have HO:=Hd ho;have HB:=Hd hb;clear ho hb hg;go_wp2_with fail;go_ret;exact⟨v',rfl,HO.out,HB.out⟩
theorem tinfo5:(Tryz.prog.info? 5).map (fun i=>(i.zero,i.size,i.bytes))=some (some (.int .u8 0),1,1):=by kernel_rfl
theorem make_in(n:Int)(w:World)(h1:1≤n)(h2:n≤32768):
  Calls Tryz.prog 75 #[.int .i64 n] w fun e w'=>e=.returned (.string ⟨(jr n).toArray⟩)∧Below w.heap.size w w':=by
 obtain⟨i,hi,fJ,eU,fD⟩:=info_parts tinfo5;have km:=run_make (P:=Tryz.prog) w 147 5 _ _ Tryz.underlying147 hi fJ .i64 .i64 ((n+7) / 8) ((n+7) / 8) (by omega) (Int.le_refl _) (by rw[fD];omega) (by omega)
 have hb:=(ByteRow.zeros w ((n+7) / 8).toNat 5).back (P:=Tryz.prog) 147 9 5 ((n+7) / 8).toNat Tryz.underlying147 Tryz.underlying5 Tryz.underlying9;rw[List.length_replicate] at hb;have hm:jr n=List.replicate ((n+7) / 8).toNat 0:=by unfold jr;rw[if_pos ⟨h1,h2⟩]
 rw[←hm] at hb;have HM:=Hd hm;clear hm;go_enter Tryz.func75,Tryz.ntmps75;go_wp2;go_ret;exact⟨rfl,(Below.refl _ _).alloc (Nat.le_refl _) _⟩
theorem make_lo(n:Int)(w:World)(h1:n<1):
  Calls Tryz.prog 75 #[.int .i64 n] w fun e w'=>e=.returned (.string ⟨(jr n).toArray⟩)∧Below w.heap.size w w':=by
 have hm:jr n=[]:=by unfold jr;rw[if_neg (by omega)]
 have HM:=Hd hm;clear hm;go_enter Tryz.func75,Tryz.ntmps75;go_wp2;go_ret;exact⟨by rw[HM.out];rfl,Below.refl _ _⟩
theorem make_hi(n:Int)(w:World)(h1:32768<n):
  Calls Tryz.prog 75 #[.int .i64 n] w fun e w'=>e=.returned (.string ⟨(jr n).toArray⟩)∧Below w.heap.size w w':=by
 have hm:jr n=[]:=by unfold jr;rw[if_neg (by omega)]
 have HM:=Hd hm;clear hm;have h0:¬n<1:=by omega
 go_enter Tryz.func75,Tryz.ntmps75;go_wp2;go_ret;exact⟨by rw[HM.out];rfl,Below.refl _ _⟩
theorem make_any(n:Int)(w:World):
  Calls Tryz.prog 75 #[.int .i64 n] w fun e w'=>e=.returned (.string ⟨(jr n).toArray⟩)∧Below w.heap.size w w':=by
 by_cases h1:n<1
 ·exact make_lo n w h1
 ·by_cases h2:n≤32768
  ·exact make_in n w (by omega) h2
  ·exact make_hi n w (by omega)
theorem WA(v:Value)(l:List au)(w:World)(hv:Docs w v l)(h:¬(l.length<1∨500<l.length))(bD:fV l)(hT:Tabs w)(gG:Spans w):
  Calls Tryz.prog 40 #[v] w fun e w'=>(∃g p,e=.returned (.tuple #[.slice (some ⟨g,0,none⟩) 1 1,.string ⟨(jV l (eF l)).toArray⟩])∧MI w' (.slice (some ⟨g,0,none⟩) 1 1) [(p,jr l.length)]∧SegAt w' p l (eF l))∧Q w w':=by
 have cb:=abM v l w hv h bD hT gG;obtain⟨a,cap,rfl,_⟩:=hv.value;have CB:=Hd cb;have HT:=Hd hT;have nX:=Hd gG;have ni:=Hd bD;clear cb hv hT gG bD;go_enter Tryz.func40,Tryz.ntmps40;go_wp2_with fail;refine CB.out.mono ?_;rintro e w1 ⟨rfl,q1⟩;have co:=Open_ok l w1 h ni.out (HT.out.stays q1) (nX.out.stays q1);have CO:=Hd co;have aC:=Hd q1;clear co q1 CB;go_wp2_with fail;refine CO.out.mono ?_;rintro e w2 ⟨⟨p,rfl,hs⟩,q2⟩;have gJ:=aC.out.trans q2;have cm:=make_any (l.length:Int) w2;have CM:=Hd cm;have HS:=Hd hs;have aS:=Hd gJ;clear cm hs gJ q2 CO aC;go_wp2_with fail;refine CM.out.mono ?_;rintro e w3 ⟨rfl,q3⟩;have kP:=HS.out.stays q3;have tX:=aS.out.trans q3;have oU:=Hd kP;have bZ:=Hd tX;clear kP tX q3 CM HS aS;go_wp2_with fail;have Vk:=Sl.lit w3 #[.pointer (some ⟨p,0,none⟩),ak (jr l.length)] 70 1 2 rfl;have rQ:=Q.alloc w3 (.cells #[.pointer (some ⟨p,0,none⟩),ak (jr l.length)] 70);go_ret2;exact⟨⟨w3.heap.size,p,rfl,Vk,oU.out.stays rQ⟩,bZ.out.trans rQ⟩
theorem WB(a:Option Addr)(cap:Nat)(w:World):
  Calls Tryz.prog 40 #[.slice a 0 cap] w fun e w'=>e=.returned (.tuple #[.slice none 0 0,.string ⟨([]:Bytes).toArray⟩])∧w=w':=by
 go_enter Tryz.func40,Tryz.ntmps40;go_wp2_with fail;go_ret2;exact⟨rfl,rfl⟩
def Fp(l:List OpL):Nat→List (Bytes×Value)
 | 0=>[]
 | k+1=>fU (l.getD k (false,([],[]))).2.1 (.int .i64 (k:Nat)) (Fp l k)
def qR(l:List OpL):Nat→List OpL
 | 0=>[]
 | k+1=>qR l k++(if (l.getD k (false,([],[]))).2.1∈(l.drop (k+1)).map (fun p=>p.2.1) then [] else [l.getD k (false,([],[]))])
theorem ae1(l:List OpL)(k:Nat)(h:k≤l.length):fK l=qR l k++fK (l.drop k):=by
 induction k with
 | zero=>simp[qR]
 | succ k ih =>
  have hlt:k<l.length:=by omega
  rw[ih (by omega),qR,List.drop_eq_getElem_cons hlt,fK,List.getD_eq_getElem?_getD,List.getElem?_eq_getElem hlt]
  simp only[Option.getD_some];split<;>simp
theorem ahs(l:List OpL):qR l l.length=fK l:=by
 have:=ae1 l l.length (Nat.le_refl _);simpa[fK] using this.symm
theorem atTo_get(l:List OpL)(n:Nat)(hn:n≤l.length)(k:Nat)(hk:k<n):
  ∃j,getM (l.getD k (false,([],[]))).2.1 (Fp l n)=some (.int .i64 (j:Nat))∧k≤j∧j<n∧(j=k↔(l.getD k (false,([],[]))).2.1∉((l.take n).drop (k+1)).map (fun p=>p.2.1)):=by
 induction n with
 | zero=>omega
 | succ n ih =>
  have hlt:n<l.length:=by omega
  rw[Fp,get_put];have ht:(l.take (n+1))=l.take n++[l[n]]:=List.take_succ_eq_append_getElem hlt;have Uj:l.getD n (false,([],[]))=l[n]:=by rw[List.getD_eq_getElem?_getD,List.getElem?_eq_getElem hlt];rfl
  by_cases lq:k=n
  ·subst lq
   rw[if_pos rfl];refine⟨k,rfl,Nat.le_refl _,by omega,?_⟩
   have:(l.take (k+1)).drop (k+1)=[]:=by rw[List.drop_eq_nil_iff];simp;omega
   rw[this];simp
  ·obtain⟨j,h1,h2,h3,h4⟩:=ih (by omega) (by omega)
   have hd:(l.take (n+1)).drop (k+1)=(l.take n).drop (k+1)++[l[n]]:=by
    rw[ht,List.drop_append_of_le_length (by rw[List.length_take];omega)]
   by_cases he:(l.getD n (false,([],[]))).2.1=(l.getD k (false,([],[]))).2.1
   ·rw[if_pos he]
    refine⟨n,rfl,by omega,by omega,?_⟩
    rw[hd,List.map_append,List.mem_append,←he,Uj];simp;omega
   ·rw[if_neg he]
    refine⟨j,h1,h2,by omega,?_⟩
    rw[hd,List.map_append,List.mem_append,h4];rw[Uj] at he;rw[List.map_singleton,List.mem_singleton,not_or];exact⟨fun h=>⟨h,fun e=>he e.symm⟩,fun h=>h.1⟩
theorem aht(l:List OpL)(k:Nat):(qR l k).length≤k:=by
 induction k with
 | zero=>simp[qR]
 | succ k ih=>rw[qR,List.length_append];split<;>simp<;>omega
abbrev wR(l:List OpL):List Value:=l.flatMap fun o=>[.bool o.1,ak o.2.1,ak o.2.2]
theorem LX(l:List OpL)(d:OpL):wR (l++[d])=wR l++[.bool d.1,ak d.2.1,ak d.2.2]:=by simp[wR]
theorem opVs_at(l:List OpL)(k:Nat)(h:k<l.length):(wR l)[k*3]?=some (.bool l[k].1)∧(wR l)[k*3+1]?=some (ak l[k].2.1)∧(wR l)[k*3+2]?=some (ak l[k].2.2):=by
 induction l generalizing k with
 | nil=>simp at h
 | cons d l ih =>
  have e:wR (d::l)=.bool d.1::ak d.2.1::ak d.2.2::wR l:=by simp[wR]
  cases k with
  | zero=>rw[e];exact⟨rfl,rfl,rfl⟩
  | succ k =>
   have:=ih k (by simpa using h)
   rw[e,show(k+1)*3=k*3+1+1+1 by omega]
   exact this
def Ops(w:World)(v:Value)(l:List OpL):Prop:=Sl w v l.length 3 (wR l)
theorem Ops.stays{w w':World}{v:Value}{l:List OpL}(h:Ops w v l)(hb:Q w w'):Ops w' v l:=Sl.stays h hb
theorem Ops.value{w:World}{v:Value}{l:List OpL}(h:Ops w v l):∃a cap,v=.slice a l.length cap∧(0<l.length→∃b off,a=some ⟨b,off,none⟩ ∧
  ∀k (hk:k<l.length),w.cell? ⟨b,off+k*3,none⟩=some (.bool l[k].1)∧w.cell? ⟨b,off+k*3+1,none⟩=some (ak l[k].2.1)∧w.cell? ⟨b,off+k*3+2,none⟩=some (ak l[k].2.2)):=by
 obtain⟨_,a,cap,h2,h3⟩:=h;refine⟨a,cap,h2,fun hn=>?_⟩
 obtain⟨b,off,h4,h5⟩:=h3 hn;refine⟨b,off,h4,fun k hk=>?_⟩
 obtain⟨e0,e1,e2⟩:=opVs_at l k hk;exact⟨h5 _ _ e0,h5 _ _ e1,h5 _ _ e2⟩
theorem mE:(Tryz.prog.info? 49).map (fun i=>(i.zero,i.size,i.bytes))=some (some (.agg #[.bool false,ak [],ak []]),3,40):=by kernel_rfl
theorem ahu(l:List OpL)(k:Nat)(h:k<l.length):qR l (k+1)=qR l k++(if l[k].2.1∈(l.drop (k+1)).map (fun p=>p.2.1) then [] else [l[k]]):=by
 rw[qR,List.getD_eq_getElem?_getD,List.getElem?_eq_getElem h];rfl
theorem atTo_all(l:List OpL)(k:Nat)(h:k<l.length):
  ∃j:Nat,getM l[k].2.1 (Fp l l.length)=some (.int .i64 (j:Nat))∧(j=k↔l[k].2.1∉(l.drop (k+1)).map (fun p=>p.2.1)):=by
 obtain⟨j,h1,_,_,h4⟩:=atTo_get l l.length (Nat.le_refl _) k h;rw[List.getD_eq_getElem?_getD,List.getElem?_eq_getElem h,List.take_length] at *;exact⟨j,h1,h4⟩
theorem Last_any(v:Value)(l:List OpL)(w:World)(hv:Ops w v l)(hn:l.length≤1000000):
  Calls Tryz.prog 37 #[v] w fun e w'=>∃v',e=.returned v'∧w'.ownsRow w.heap.size 49 3 v' (fK l).length (wR (fK l))∧Q w w':=by
 obtain⟨io,V4,fJ,eU,fD⟩:=info_parts mE;obtain⟨a,cap,rfl,aJ⟩:=hv.value;have HC:=Hd aJ;clear hv aJ;have vT:=@run_makeMap Tryz.prog;go_enter Tryz.func37,Tryz.ntmps37;go_wp2_with fail;have h0:MapS (w.alloc (.map #[] 0)) w.heap.size (Fp l 0):=MapS.made w;have lK:Below w.heap.size w (w.alloc (.map #[] 0)):=(Below.refl _ w).alloc (Nat.le_refl _) _;have H0:=Hd h0;have xq:=Hd lK;clear h0 lK;go_loopw [12] (fun i wr=>∃k:Nat,i=.int .i64 (k:Nat)∧k≤l.length∧Hid (MapS wr w.heap.size (Fp l k))∧Hid (Below w.heap.size w wr)) (fun i _=>l.length-(intOf i).toNat)
 case atStart=>exact⟨0,rfl,by omega,H0,xq⟩
 case round =>
  obtain⟨k,rfl,hk,HI,HB⟩:=hrel;obtain⟨wo,rfl⟩:∃wo:World,wo=wr:=⟨_,rfl⟩;have Fb:=HB.out.size;by_cases hlt:k<l.length
  ·obtain⟨b,off,rfl,hc⟩:=HC.out (by omega)
   obtain⟨gX,dM,zO⟩:=hc k hlt;have lJ:=ah HB.out gX;have nV:=ah HB.out dM;have Io:=ah HB.out zO;have kR:Fp l (k+1)=fU l[k].2.1 (.int .i64 (k:Nat)) (Fp l k):=by
    rw[Fp,List.getD_eq_getElem?_getD,List.getElem?_eq_getElem hlt];rfl
   have xu:=Hd kR;clear hc gX dM zO kR;generalize l[k]=o at *;obtain⟨ob,oid,otx⟩:=o;simp only at lJ nV Io xu;have lU:=HB.out.alloc Fb (.cells #[.bool ob,ak oid,ak otx] 49);have hm:=HI.out.stays (Q.alloc wo (.cells #[.bool ob,ak oid,ak otx] 49));have pI:=Hd lU;clear lU HI HB;go_wp2_with (at_mapUpdate;go_must (refine mJ _ (by rfl) _ _ _ 65 (by rfl) 9 3 Tryz.underlying65 Tryz.underlying9 w.heap.size (Fp l k) hm oid (.int .i64 (k:Nat)) (by rfl) (by rfl) (by rfl) ?_))
   intro w5 ED uh;have nO:=pI.out.grown uh pI.out.size (fun x hx=>by cases hx;exact Nat.le_refl _)
   rw[←xu.out] at ED;have Q7:=Hd ED;have lS:=Hd nO;clear ED uh nO hm;go_wp2_with fail;go_roundw;case rel=>exact⟨k+1,by go_num,by omega,Q7,lS⟩
   case measure=>simp[intOf];omega
  ·have cO:k=l.length:=by omega
   subst cO;have hq:Q w wo:=HB.out;have HQ:=Hd hq;clear hq HB;go_wp2_with fail;go_loopw [6,25] (fun ov x wr=>∃j:Nat,x=.int .i64 (j:Nat)∧j≤l.length∧Hid (wr.ownsRow wo.heap.size 49 3 ov (qR l j).length (wR (qR l j)))∧Hid (Below wo.heap.size wo wr)) (fun _ x _=>l.length-(intOf x).toNat)
   case atStart=>exact⟨0,rfl,by omega,World.ownsRow_nil _ _ _ _,Below.refl _ _⟩
   case round =>
    obtain⟨j,rfl,hj,HO,HB⟩:=hrel;obtain⟨wi,rfl⟩:∃wi:World,wi=wr:=⟨_,rfl⟩;have JC:=HB.out.size;by_cases iI:j<l.length
    ·obtain⟨b,off,rfl,hc⟩:=HC.out (by omega)
     obtain⟨gX,dM,zO⟩:=hc j iI;have jS:=HQ.out.trans HB.out;have lJ:=ah jS gX;have nV:=ah jS dM;have Io:=ah jS zO;have Ns:=ahu l j iI;have xH:=aht l j;obtain⟨jj,oO,vV⟩:=atTo_all l j iI;generalize l[j]=o at *;obtain⟨ob,oid,otx⟩:=o;simp only at lJ nV Io Ns oO vV;have hm:=(HI.out.stays HB.out).stays (Q.alloc wi (.cells #[.bool ob,ak oid,ak otx] 49));have xL:(getM oid (Fp l l.length)).getD (.int .i64 0)=.int .i64 (jj:Nat):=by rw[oO];rfl
     have jf:=HO.out.alloc (.cells #[.bool ob,ak oid,ak otx] 49);have dS:=HB.out.alloc JC (.cells #[.bool ob,ak oid,ak otx] 49);have l9:wo.heap.size≤(wi.alloc (.cells #[.bool ob,ak oid,ak otx] 49)).heap.size:=dS.size;have jT:=Hd dS;clear hc gX dM zO jS dS oO HO HB;by_cases he:jj=j
     ·subst he
      have aoC:=vV.1 rfl;rw[if_neg aoC] at Ns;have Xr:=Hd Ns;clear vV aoC Ns;have jM:∀u∈(#[.bool ob,ak oid,ak otx]:Array Value).toList,u.oneCell'=true:=by simp[Value.oneCell']
      have gB:((qR l jj).length+1)*40≤140737488355328:=by omega
      go_wp2_with (first|(at_lookup;go_must (refine mM (wi.alloc (.cells #[.bool ob,ak oid,ak otx] 49)) (by rfl) _ _ 65 (by rfl) 9 3 Tryz.underlying65 Tryz.underlying9 (.int .i64 0) (I7 _) w.heap.size (Fp l l.length) hm oid (by rfl) (by rfl) _ xL ?_))|(at_builtin;go_must (refine cZ (wi.alloc (.cells #[.bool ob,ak oid,ak otx] 49)) (by rfl) _ _ 51 (by rfl) wo.heap.size 49 _ io (.agg #[.bool false,ak [],ak []]) 3 40 Tryz.underlying51 V4 fJ eU fD rfl (by decide) (by decide) _ _ _ (by rfl) jf #[.bool ob,ak oid,ak otx] (by rw[World.size_alloc];rfl) rfl jM gB l9 ?_)))
      intro g capg W1 vS xI Ov _ _;have zf:=jT.out.grown xI l9 (fun x hx=>(jf.lt x hx).1)
      have Um:W1.ownsRow wo.heap.size 49 3 (.slice (some ⟨g,0,none⟩) ((qR l jj).length+1) capg) (qR l (jj+1)).length (wR (qR l (jj+1))):=by
       rw[Xr.out,LX,List.length_append];exact vS
      have xS:=Hd Um;have zU:=Hd zf;clear Um zf vS xI Ov jf hm;go_wp2_with fail;go_roundw;case rel=>exact⟨jj+1,by go_num,by omega,xS,zU⟩
      case measure=>simp[intOf];omega
     ·have qF:oid∈(l.drop (j+1)).map (fun p=>p.2.1):=Classical.byContradiction fun hh=>he (vV.2 hh)
      rw[if_pos qF,List.append_nil] at Ns;have aF:((jj:Int)==(j:Int))=false:=by simp;omega
      have Xr:=Hd Ns;have jH:=Hd jf;clear vV qF Ns jf he;go_wp2_with (at_lookup;go_must (refine mM (wi.alloc (.cells #[.bool ob,ak oid,ak otx] 49)) (by rfl) _ _ 65 (by rfl) 9 3 Tryz.underlying65 Tryz.underlying9 (.int .i64 0) (I7 _) w.heap.size (Fp l l.length) hm oid (by rfl) (by rfl) _ xL ?_))
      go_roundw;case rel=>exact⟨j+1,by go_num,by omega,by show World.ownsRow _ _ _ _ _ _ _;rw[Xr.out];exact jH.out,jT⟩
      case measure=>simp[intOf];omega
    ·have qh:j=l.length:=by omega
     subst qh;rw[ahs] at HO;have hbe:=HQ.out.trans HB.out;have Db:=dO HO.out (show w.heap.size≤wo.heap.size from HQ.out.size)
     have xg:=Hd Db;have HBE:=Hd hbe;clear Db hbe HO HB;go_wp2_with fail;go_ret;exact⟨_,rfl,xg.out,HBE.out⟩
theorem get_pos(l:List UInt8)(i:Int)(w:World)(hs:l.length≤9223372036854775807)(hi:0≤i)(rZ:i≤9223372036854775807)(mD:i / 8<l.length):
  Calls Tryz.prog 25 #[.string ⟨l.toArray⟩,.int .i64 i] w fun e w'=>e=.returned (.bool (DK l i))∧w=w':=by
 go_enter Tryz.func25,Tryz.ntmps25;go_wp2;go_ret;refine⟨?_,rfl⟩;rw[bitI_in l i hi (by omega),←walk_bit _ _ (UInt8.toNat_lt _)]
 rfl
theorem get_neg(l:List UInt8)(i:Int)(w:World)(hs:l.length≤9223372036854775807)(hi:i<0):
  Calls Tryz.prog 25 #[.string ⟨l.toArray⟩,.int .i64 i] w fun e w'=>e=.returned (.bool (DK l i))∧w=w':=by
 have h:=bitI_neg l i hi;have H:=Hd h;clear h;go_enter Tryz.func25,Tryz.ntmps25;go_wp2;go_ret;exact⟨by rw[H.out];rfl,rfl⟩
theorem get_ge(l:List UInt8)(i:Int)(w:World)(hs:l.length≤9223372036854775807)(hi:0≤i)(rZ:i≤9223372036854775807)(mD:l.length≤i / 8):
  Calls Tryz.prog 25 #[.string ⟨l.toArray⟩,.int .i64 i] w fun e w'=>e=.returned (.bool (DK l i))∧w=w':=by
 have h:=bitI_ge l i (by omega)
 have H:=Hd h;clear h;go_enter Tryz.func25,Tryz.ntmps25;go_wp2;go_ret;exact⟨by rw[H.out];rfl,rfl⟩
theorem mH(l:List UInt8)(i:Int)(w:World)(hs:l.length≤9223372036854775807)(rZ:i≤9223372036854775807):
  Calls Tryz.prog 25 #[.string ⟨l.toArray⟩,.int .i64 i] w fun e w'=>e=.returned (.bool (DK l i))∧w=w':=by
 by_cases h:i<0
 ·exact get_neg l i w hs h
 ·by_cases h2:i / 8<l.length
  ·exact get_pos l i w hs (by omega) rZ h2
  ·exact get_ge l i w hs (by omega) rZ (by omega)
abbrev Cc(a:Nat×Nat):Value:=.agg #[.int .i64 (a.1:Nat),.int .i64 (a.2:Nat)]
def plV(m:PlL):List (Bytes×Value):=m.map fun x=>(x.1,Cc x.2)
theorem plV_put(k:Bytes)(a:Nat×Nat)(m:PlL):plV (fU k a m)=fU k (Cc a) (plV m):=Zg Cc k a m
theorem plV_get(k:Bytes)(m:PlL):getM k (plV m)=(getM k m).map Cc:=Zh Cc k m
def PartsAt(w:World)(v:Value)(ps:List aG):Prop :=
 (∃rs:List Cb,MI w v rs∧rs.map (·.2)=ps.map (·.2)∧∀(i:Nat) (r:Cb) (p:aG),rs[i]?=some r→ps[i]?=some p→SegAt w r.1 p.1 (eF p.1))∧∀a n cap,v=.slice a n cap→n≤cap
theorem PartsAt.stays{w w':World}{v:Value}{ps:List aG}(h:PartsAt w v ps)(q:Q w w'):PartsAt w' v ps:=by
 obtain⟨⟨rs,h1,h2,h3⟩,h4⟩:=h;exact⟨⟨rs,Sl.stays h1 q,h2,fun i r p hr hp=>(h3 i r p hr hp).stays q⟩,h4⟩
theorem Zm(l:List Cb)(k:Nat)(h:k<l.length):(iU l)[k*2]?=some (.pointer (some ⟨l[k].1,0,none⟩))∧(iU l)[k*2+1]?=some (ak l[k].2):=by
 induction l generalizing k with
 | nil=>simp at h
 | cons d l ih =>
  have e:iU (d::l)=.pointer (some ⟨d.1,0,none⟩)::ak d.2::iU l:=by simp[iU]
  cases k with
  | zero=>rw[e];exact⟨rfl,rfl⟩
  | succ k =>
   have:=ih k (by simpa using h)
   rw[e,show(k+1)*2=k*2+1+1 by omega]
   exact this
theorem PartsAt.value{w:World}{v:Value}{ps:List aG}(h:PartsAt w v ps):∃a cap,v=.slice a ps.length cap∧(0<ps.length→∃b off,a=some ⟨b,off,none⟩ ∧
  ∀i (hi:i<ps.length),∃p,w.cell? ⟨b,off+i*2,none⟩=some (.pointer (some ⟨p,0,none⟩))∧w.cell? ⟨b,off+i*2+1,none⟩=some (ak ps[i].2)∧SegAt w p ps[i].1 (eF ps[i].1)):=by
 obtain⟨⟨rs,⟨_,a,cap,h1,h2⟩,h3,h4⟩,_⟩:=h;have hl:rs.length=ps.length:=by have:=congrArg List.length h3;simpa using this
 rw[hl] at h1 h2;refine⟨a,cap,h1,fun hn=>?_⟩
 obtain⟨b,off,h5,h6⟩:=h2 hn;refine⟨b,off,h5,fun i hi=>?_⟩
 have hir:i<rs.length:=by omega
 obtain⟨e0,e1⟩:=Zm rs i hir;have hg:rs[i].2=ps[i].2:=by
  have:=congrArg (fun l=>l[i]?) h3
  simp only[List.getElem?_map,List.getElem?_eq_getElem hir,List.getElem?_eq_getElem hi,Option.map_some,Option.some.injEq] at this;exact this
 refine⟨rs[i].1,h6 _ _ e0,?_,h4 i _ _ (List.getElem?_eq_getElem hir) (List.getElem?_eq_getElem hi)⟩;rw[←hg];exact h6 _ _ e1
theorem yc{a b c:World}{r:Option Nat}(h:a.grownBy b r)(k:b.grownBy c r):a.grownBy c r :=
 ⟨k.os.trans h.os,k.tape.trans h.tape,k.output.trans h.output,Nat.le_trans h.size k.size,fun i h1 h2=>(k.block i (Nat.lt_of_lt_of_le h1 h.size) h2).trans (h.block i h1 h2)⟩
theorem gb_q{a b:World}(r:Option Nat)(h:Q a b):a.grownBy b r:=⟨h.os,h.tape,h.output,h.size,fun i h1 _=>h.block i h1⟩
theorem Yn(a:World)(r:Option Nat):a.grownBy a r:=gb_q r (Q.refl a)
theorem yQ{a b:World}{r:Option Nat}(h:a.grownBy b r){p:Addr}{u:Value}(hc:a.cell? p=some u)(aF:some p.block≠r):b.cell? p=some u:=h.cell hc aF
theorem gb_below{w a b:World}{m:Nat}(hw:Below w.heap.size w a)(h:a.grownBy b (some m))(hm:w.heap.size≤m):Below w.heap.size w b :=
 hw.grown h hw.size (fun k hk=>by cases hk;exact hm)
theorem WC(v:Value)(ps:List aG)(w:World)(hv:PartsAt w v ps)(hn:ps.length≤1000000)(hl:∀p∈ps,p.1.length≤1000000∧p.2.length≤1000000):
  Calls Tryz.prog 49 #[v] w fun e w'=>∃mb,e=.returned (.map (some mb))∧MapS w' mb (plV (jw ps))∧Q w w':=by
 obtain⟨a,cap,rfl,aJ⟩:=hv.value;have HC:=Hd aJ;have HL:=Hd hl;clear hv aJ hl;have vT:=@run_makeMap Tryz.prog;go_enter Tryz.func49,Tryz.ntmps49;go_wp2_with fail;have h0:MapS (w.alloc (.map #[] 0)) w.heap.size (plV (tH ps 0)):=MapS.made w;have lK:Below w.heap.size w (w.alloc (.map #[] 0)):=(Below.refl _ w).alloc (Nat.le_refl _) _;have H0:=Hd h0;have xq:=Hd lK;clear h0 lK;go_loopw [11] (fun i wr=>∃k:Nat,i=.int .i64 (k:Nat)∧k≤ps.length∧Hid (MapS wr w.heap.size (plV (tH ps k)))∧Hid (Below w.heap.size w wr)) (fun i _=>ps.length-(intOf i).toNat)
 case atStart=>exact⟨0,rfl,by omega,H0,xq⟩
 case round =>
  obtain⟨i,rfl,hi,HI,HB⟩:=hrel;obtain⟨wo,rfl⟩:∃wo:World,wo=wr:=⟨_,rfl⟩;have Fb:=HB.out.size;by_cases hlt:i<ps.length
  ·obtain⟨b,off,rfl,hc⟩:=HC.out (by omega)
   obtain⟨p,gX,dM,Iq⟩:=hc i hlt;have lJ:=ah HB.out gX;have nV:=ah HB.out dM;have EW:=Iq.stays HB.out;obtain⟨jZ,jB⟩:=HL.out _ (List.getElem_mem hlt);have kR:tH ps (i+1)=vK ps[i] i (tH ps i) ps[i].1.length:=by
    rw[tH,List.getD_eq_getElem?_getD,List.getElem?_eq_getElem hlt];rfl
   have xu:=Hd kR;clear hc gX dM Iq kR;generalize ps[i]=pp at *;obtain⟨ds,gn⟩:=pp;simp only at lJ nV EW jZ jB xu;have lU:=HB.out.alloc Fb (.cells #[.pointer (some ⟨p,0,none⟩),ak gn] 70);have hm:=HI.out.stays (Q.alloc wo (.cells #[.pointer (some ⟨p,0,none⟩),ak gn] 70));have csd:=F6 p ds (eF ds) (wo.alloc (.cells #[.pointer (some ⟨p,0,none⟩),ak gn] 70)) (EW.stays (Q.alloc _ _)) jZ;have ax6:=HI.out.lt;have aoF:(wo.alloc (.cells #[.pointer (some ⟨p,0,none⟩),ak gn] 70)).cell? ⟨wo.heap.size,1,none⟩=some (ak gn):=by simp only[World.cell?,heap_alloc_new];rfl
   have pI:=Hd lU;have HM:=Hd hm;have CSD:=Hd csd;have aoG:=Hd aoF;clear lU hm csd aoF HI HB EW;go_wp2_with fail;refine CSD.out.mono ?_;rintro e w2 ⟨v',rfl,ho,q2⟩;have JF:Docs w2 v' ds:=Sl.of_owns ho;obtain⟨da,dcap,rfl,Q8⟩:=JF.value;have aO:=pI.out.trans (Below.mono q2 pI.out.size);have yK:=HM.out.stays q2;have amM:=ah q2 aoG.out;have BO:=fun k (hk:(Value.slice da ds.length dcap).ownBlock=some k)=>(ho.lt k hk).1
   have Ei:wo.heap.size<w2.heap.size:=by have:=q2.size;simp at this;omega
   have aoH:MapS w2 w.heap.size (plV (vK (ds,gn) i (tH ps i) 0)):=yK;have atu:=Hd aoH;have HDC:=Hd Q8;have eG:=Hd aO;have aqJ:=Hd amM;have HLO:=Hd BO;clear ho JF Q8 aO yK amM BO q2 CSD pI HM aoG lJ nV aoH;go_wp2_with fail;go_loopw [22] (fun x wr=>∃k:Nat,x=.int .i64 (k:Nat)∧k≤ds.length∧Hid (MapS wr w.heap.size (plV (vK (ds,gn) i (tH ps i) k)))∧Hid (w2.grownBy wr (some w.heap.size))) (fun x _=>ds.length-(intOf x).toNat)
   case atStart=>exact⟨0,rfl,by omega,atu,Yn _ _⟩
   case round =>
    obtain⟨k,rfl,hk,HM,HG⟩:=hrel;obtain⟨wi,rfl⟩:∃wi:World,wi=wr:=⟨_,rfl⟩;have JC:=HG.out.size;by_cases xH:k<ds.length
    ·obtain⟨g,go,rfl,hc⟩:=HDC.out (by omega)
     obtain⟨gX,dM⟩:=hc k xH;have MZ:=HLO.out g rfl;simp only[World.size_alloc] at MZ;have lJ:=yQ HG.out gX (by simp;omega)
     have nV:=yQ HG.out dM (by simp;omega)
     have aoI:=yQ HG.out aqJ.out (by simp;omega)
     have hid:ds.getD k ([],[])=ds[k]:=by rw[List.getD_eq_getElem?_getD,List.getElem?_eq_getElem xH];rfl
     have kR:vK (ds,gn) i (tH ps i) (k+1)=if bit gn k then vK (ds,gn) i (tH ps i) k else fU ds[k].1 (i,k) (vK (ds,gn) i (tH ps i) k):=by
      rw[vK,hid]
     clear hc gX dM hid;generalize ds[k]=dk at *;obtain⟨id,tx⟩:=dk;simp only at lJ nV kR;have rO:=ah (Q.alloc wi (.cells #[ak id,ak tx] 47)) aoI;clear aoI;have Xy:=HM.out.stays (Q.alloc wi (.cells #[ak id,ak tx] 47));have Q9:=yc HG.out (gb_q (some w.heap.size) (Q.alloc wi (.cells #[ak id,ak tx] 47)));have cg:=fun W=>mH gn (k:Nat) W (by omega) (by omega)
     rw[abm] at cg;have Mr:=Hd Q9;clear Q9 HG HM;cases hb:bit gn k with
     | true =>
      rw[hb] at cg kR;rw[if_pos rfl] at kR;rw[←kR] at Xy;have CG:=Hd cg;have HM3:=Hd Xy;have HB:=Hd hb;clear cg Xy kR hb;go_wp2_with fail;refine(CG.out _).mono ?_;rintro e w3 ⟨rfl,rfl⟩;go_wp2_with fail;go_roundw;case rel=>exact⟨k+1,by go_num,by omega,HM3,Mr⟩
      case measure=>simp[intOf];omega
     | false =>
      rw[hb] at cg kR;rw[if_neg (by simp)] at kR
      have hnv:plV (vK (ds,gn) i (tH ps i) (k+1))=fU id (Cc (i,k)) (plV (vK (ds,gn) i (tH ps i) k)):=by rw[kR,plV_put]
      have CG:=Hd cg;have HNV:=Hd hnv;have HB:=Hd hb;clear cg kR hnv hb;go_wp2_with fail;refine(CG.out _).mono ?_;rintro e w3 ⟨rfl,rfl⟩;go_wp2_with (at_mapUpdate;go_must (refine mJ _ (by rfl) _ _ _ 115 (by rfl) 9 169 Tryz.underlying115 Tryz.underlying9 w.heap.size (plV (vK (ds,gn) i (tH ps i) k)) Xy id (Cc (i,k)) (by rfl) (by rfl) (by rfl) ?_))
      intro w5 ED uh;have dB:=yc Mr.out uh;rw[←HNV.out] at ED;have Q7:=Hd ED;have HG5:=Hd dB;clear ED uh dB Xy;go_wp2_with fail;go_roundw;case rel=>exact⟨k+1,by go_num,by omega,Q7,HG5⟩
      case measure=>simp[intOf];omega
    ·have cO:k=ds.length:=by omega
     subst cO;have hm4:=HM.out;rw[←xu.out] at hm4;have gZ:=gb_below eG.out HG.out (Nat.le_refl _);have HM4:=Hd hm4;have lQ:=Hd gZ;clear hm4 gZ HM HG;go_wp2_with fail;go_roundw;case rel=>exact⟨i+1,by go_num,by omega,HM4,lQ⟩
     case measure=>simp[intOf];omega
  ·have cO:i=ps.length:=by omega
   subst cO;go_wp2_with fail;go_ret;exact⟨_,rfl,HI.out,HB.out⟩
end
section
open Go.RowKit
attribute [local go_sem] Oper.semAt_some
structure SrS (w₀:World) (pv:Value) (n:Nat) (wt:Bytes→Nat) (sb mb:Nat) (W:World):Prop where
 q:Q w₀ W
 blk:Blk W sb 67 #[pv,.int .i64 (n:Nat),.map (some mb)]
 map:∃m,MapS W mb m∧∀t v,getM t m=some v→v=.int .i64 (wt t:Nat)
 sb_ge:w₀.heap.size≤sb
 mb_ge:w₀.heap.size≤mb
theorem SrS.stays{w₀:World}{pv:Value}{n:Nat}{wt:Bytes→Nat}{sb mb:Nat}{W W':World}(h:SrS w₀ pv n wt sb mb W)(q:Q W W'):SrS w₀ pv n wt sb mb W':=by
 obtain⟨m,h1,h2⟩:=h.map;exact⟨h.q.trans q,h.blk.stays q,⟨m,h1.stays q,h2⟩,h.sb_ge,h.mb_ge⟩
theorem SrS.grown{w₀:World}{pv:Value}{n:Nat}{wt:Bytes→Nat}{sb mb:Nat}{W W':World}(h:SrS w₀ pv n wt sb mb W){base:Nat}{e:TypeId}{size:Nat}{v:Value}{k:Nat}{xs:List Value}(ho:W.ownsRow base e size v k xs)(hg:W.grownBy W' v.ownBlock)(hb:w₀.heap.size≤base)(he:67≠e):SrS w₀ pv n wt sb mb W':=by
 obtain⟨m,h1,h2⟩:=h.map;refine⟨h.q.grown hg h.q.size (fun j hj=>by have:=(ho.lt j hj).1;omega),lW h.blk ho hg he,⟨m,h1.same (hg.block mb h1.lt (fun e'=>?_)),h2⟩,h.sb_ge,h.mb_ge⟩
 obtain⟨cs,hc⟩:=jE ho mb e'.symm;obtain⟨es,clock,hm,_⟩:=h1;rw[hm] at hc;cases hc
theorem Cs.map{n₀:Nat}{W W':World}{b:Nat}{m:List (List UInt8×Value)}(h:MapS W b m)(hg:W.grownBy W' (some b))(hb:n₀≤b):Cs n₀ W W':=by
 obtain⟨es,clock,hm,_⟩:=h;exact⟨hg.os,hg.tape,hg.output,hg.size,fun k h1 h2 _=>hg.block k h2 (fun e=>by injection e with e;omega),
  fun k o h1 h2 _=>(hg.block k (aU h1) (fun e=>by injection e with e;subst e;rw[hm] at h1;cases h1;cases h2)).trans h1⟩
theorem SrS.put{w₀:World}{pv:Value}{n:Nat}{wt:Bytes→Nat}{sb mb:Nat}{W W':World}(h:SrS w₀ pv n wt sb mb W){m:List (List UInt8×Value)}(hm:MapS W mb m)(rP:∀t v,getM t m=some v→v=.int .i64 (wt t:Nat))(t:Bytes)
  (hm':MapS W' mb (fU t (.int .i64 (wt t:Nat)) m)) (hg:W.grownBy W' (some mb)):SrS w₀ pv n wt sb mb W':=by
 have c:=Cs.map hm hg h.mb_ge;refine⟨Below.trans h.q (Cs.low c h.q.size),c.blk h.blk,⟨_,hm',fun t' v hv=>?_⟩,h.sb_ge,h.mb_ge⟩
 rw[get_put] at hv;split at hv
 ·rename_i e;subst e;cases hv;rfl
 ·exact rP t' v hv
theorem SrS.itk{w₀:World}{pv:Value}{n:Nat}{wt:Bytes→Nat}{sb mb:Nat}{W W':World}(h:SrS w₀ pv n wt sb mb W){lo:Nat}(hi:Itk (fun _=>False) lo W W')(hm:mb<lo)(hl:w₀.heap.size≤lo):SrS w₀ pv n wt sb mb W':=by
 obtain⟨m,h1,h2⟩:=h.map;have c:Cs w₀.heap.size W W':=hi.mono (fun _ h=>h) hl
 exact⟨Below.trans h.q (Cs.low c h.q.size),c.blk h.blk,⟨m,h1.same (hi.low mb hm h1.lt (fun h=>h)),h2⟩,h.sb_ge,h.mb_ge⟩
theorem ae2(w₀:World)(pv:Value)(ps:List aG)(wt:Bytes→Nat)(sb mb:Nat)(t:Bytes)(W:World)(h:SrS w₀ pv (aH ps).length wt sb mb W)(hp:PartsAt w₀ pv ps)(bD:∀p∈ps,PartOk p)(hn:ps.length≤1000)(OQ:wt t=wtL (aH ps) t):
  Calls Tryz.prog 55 #[.pointer (some ⟨sb,0,none⟩),ak t] W fun e W'=>e=.returned (.int .i64 (wt t:Nat))∧Cs w₀.heap.size W W'∧SrS w₀ pv (aH ps).length wt sb mb W':=by
 obtain⟨pa,pc,rfl,sQ⟩:=(hp.stays h.q).value;obtain⟨m,hm,rP⟩:=h.map;have Ox:=h.blk;have hmb:=hm.lt;have Va:w₀.heap.size≤W.heap.size:=h.q.size;obtain⟨s0,s1,s2,_⟩:=Ox.c3;have aD:(aH ps).length≤500000:=by have:=Fj ps (fun p hp=>(bD p hp).2.2.1);omega
 obtain⟨n,qG⟩:∃n,n=(aH ps).length:=⟨_,rfl⟩;have xV:qY (n:Int) ((qZ (aH ps) t:Nat):Int)=wt t:=by rw[Ti,OQ,qG];rfl
 have Sw:=abS (aH ps) t;rw[←qG] at h s1 aD Ox Sw ⊢;have BQ:=Hd sQ;have HM:=Hd hm;have Du:=Hd rP;have HS:=Hd h;have ni:=Hd bD;have HB:=Hd Ox;have HWZ:=Hd xV;clear sQ hm rP h bD Ox qG OQ hp xV;refine(callsIn_wide (n:=0)).1 ?_;refine callsIn_of_wp_marks Tryz.func55 rfl trivial ?_ rfl;simp only[Tryz.ntmps55,List.size_toArray,List.length_cons,List.length_nil,Nat.reduceAdd,Nat.reduceSub,Array.replicate_succ,Array.replicate_zero,List.push_toArray,List.append_toArray,List.nil_append,List.cons_append];refine wpIn_wide.2 ?_;cases hg:getM t m with
 | some v =>
  have hv:=Du.out t v hg;subst hv;have HG:=Hd hg;clear hg BQ Du HWZ Sw;go_wp2_with (at_lookup;go_must (refine rX W (by rfl) _ _ 65 true (by rfl) 9 3 Tryz.underlying65 Tryz.underlying9 (.int .i64 0) (I7 _) mb m HM.out t (by rfl) (by rfl) ?_;rw[HG.out]))
  refine⟨_,results_tmp rfl _ _ _,rfl,Cs.refl _ _,HS.out⟩
 | none =>
  have HG:=Hd hg;clear hg;have t0:=ah (Q.alloc W (.cells #[.int .i64 0] 3)) s0;go_wp2_with (at_lookup;go_must (refine rX W (by rfl) _ _ 65 true (by rfl) 9 3 Tryz.underlying65 Tryz.underlying9 (.int .i64 0) (I7 _) mb m HM.out t (by rfl) (by rfl) ?_;rw[HG.out]))
  clear HG s0 s1 s2 t0;have iR:=Q.alloc W (.cells #[.int .i64 0] 3);have lU:=Boxed.new W 3 (.int .i64 0);generalize Dg:W.heap.size=hb at *;refine wp_loop (fun a' w'=>∃(x2 x3 x4 x5 x6 x8 x9 x10 x11 x12 x13 x14 x15 x16 x17 x18 x19 x20 x21 x22 x23 x24 x25 x28 x29 x30 x31 x32 x33 x34 x35 x36 x37 x38 x39 x40 x41 x42 x43 x44 x45 x46 x47 x48 x49 x50 x51 x52 x53 x54 x55 x56 x57 x58 x59 x60 x61 x62:Value) (dfs:List Deferred),(∃(k:Nat) (ds:List Nat),dfs=ds.map markD∧k≤ps.length∧x28=.int .i64 (k:Nat)∧Hid (Q W w')∧Hid (Marks hb w' ds)∧Hid (Boxed w' hb 3 (.int .i64 ((qZ (aH (ps.take k)) t:Nat):Int))))∧a'={ tmps:=#[.pointer (some ⟨sb,0,none⟩),ak t,x2,x3,x4,x5,x6,.pointer (some ⟨hb,0,none⟩),x8,x9,x10,x11,x12,x13,x14,x15,x16,x17,x18,x19,x20,x21,x22,x23,x24,x25,.slice pa ps.length pc,.int .i64 ps.length,x28,x29,x30,x31,x32,x33,x34,x35,x36,x37,x38,x39,x40,x41,x42,x43,x44,x45,x46,x47,x48,x49,x50,x51,x52,x53,x54,x55,x56,x57,x58,x59,x60,x61,x62],defers:=dfs })
   (fun a' _=>ps.length-(intOf (a'.tmps.getD 28 undef)).toNat) ?_ ?_
  ·(repeat apply Exists.intro)
   refine⟨⟨0,[],rfl,Nat.zero_le _,rfl,iR,Marks.nil _ _,lU⟩,rfl⟩
  ·intro a' wr amx
   obtain⟨x2,x3,x4,x5,x6,x8,x9,x10,x11,x12,x13,x14,x15,x16,x17,x18,x19,x20,x21,x22,x23,x24,x25,x28,x29,x30,x31,x32,x33,x34,x35,x36,x37,x38,x39,x40,x41,x42,x43,x44,x45,x46,x47,x48,x49,x50,x51,x52,x53,x54,x55,x56,x57,x58,x59,x60,x61,x62,dfs,⟨k,ds,rfl,hk,rfl,HQ,Xz,pI⟩,rfl⟩:=amx;obtain⟨wo,rfl⟩:∃wo:World,wo=wr:=⟨_,rfl⟩;by_cases hlt:k<ps.length
   ·obtain⟨b,off,rfl,bC⟩:=BQ.out (by omega)
    obtain⟨p,e0,e1,yu⟩:=bC k hlt;have u0:=ah HQ.out e0;have u1:=ah HQ.out e1;have bD:=ni.out ps[k] (List.getElem_mem hlt);have jS:Q W (wo.alloc (.cells #[.pointer (some ⟨p,0,none⟩),ak ps[k].2] 70)):=HQ.out.trans (Q.alloc _ _);have c:=Ku p ps[k].1 t 0 _ (yu.stays jS) bD.2.2.1 bD.1;have aI:=have_step ps t k hlt;have bR:=abS (aH (ps.take (k+1))) t;have EH:=Fj (ps.take (k+1)) (fun p hp=>(ni.out p (List.mem_of_mem_take hp)).2.2.1)
    have ai4:(ps.take (k+1)).length≤1000:=by rw[List.length_take];omega
    rw[show iY (bf t ps[k].1 0) 0=bf t ps[k].1 0 from fromP_all t ps[k].1] at c
    have sU:=(vJ _ (IG bD.2.2.1 bD.1 t));have AA:ps[k].2.length≤1000000:=by have h5:=bD.2.2.2;have h6:=bD.2.2.1;omega
    generalize bf t ps[k].1 0=xs at *;generalize ps[k].2=gone at *;generalize qZ (aH (ps.take k)) t=h0 at *;have hh0:h0+Am gone xs≤500000:=by omega
    obtain⟨y0,y1,_⟩:=(Blk.new wo 70 #[.pointer (some ⟨p,0,none⟩),ak gone]).c2;have sS:=Blk.new wo 70 #[.pointer (some ⟨p,0,none⟩),ak gone];have hi1:(k:Int)<(ps.length:Int):=by omega
    have mD:(0:Int)≤(k:Int):=by omega
    have C:=Hd c;have bJ:=Hd aI;have uR:=Hd sU.2.1;have rE:=sU.1;have aC:=Hd jS;have BR:=Hd sS;clear c aI sU jS sS e0 e1 yu bD bC bR EH ai4;go_wp2_with fail;refine C.out.mono ?_;rintro e w1 ⟨⟨gf,lb,rfl,Mq,kp,Np,Oo⟩,q1⟩;have qq:Q wo w1:=(Q.alloc _ _).trans q1;have dN:=q1.size;simp only[World.size_alloc] at dN Np;have hBs:hb<wo.heap.size:=pI.out.lt;have adz:=Hd (BR.out.stays q1);have aoM:=Hd (show Boxed w1 hb 3 (.int .i64 (h0:Nat)) from aB qq pI.out)
    have aoN:Hid (Marks hb w1 ds):=Xz.out.keeps (fun D hD=>qq.block D (Xz.out.lt D hD))
    have zW:Hid (∀D∈ds,D<wo.heap.size):=Xz.out.lt;have aS:=Hd (aC.out.trans q1);have ai3:=Hd Oo;have Nq:=Hd Np;have V3:=Hd Mq;clear C q1 qq Oo Np Mq BR pI Xz aC y0 y1 u0 u1;go_wp2_with fail;refine(wpIn_wide (n:=0)).1 ?_;refine UO (fun A0 Ip=>?_)
    refine PI (gf:=gf) (lb:=lb) (by rw[Ip];rfl) V3.out (encs:=encP (w1.heap.size+2+7)) (own:=fun k=>k=w1.heap.size+2+1∨k=w1.heap.size+2+4) (keep:=fun k=>kp k∨(w1.heap.size+2≤k∧k<w1.heap.size+2+7)) (n₀:=hb) (xs:=xs)
     (fun W1 hq hz=>by
      have h:=ai3.out W1 hb hq (by omega)
      rw[hz] at h;exact h)
     (fun k h=>by omega) (fun k h=>Or.elim h (fun h=>by have:=Nq.out k h;omega) (fun h=>by omega)) (by omega) (fun x W1 args h=>by obtain⟨v,rfl,_⟩:=h;rfl)
     (fun j Wj=>Boxed Wj hb 3 (.int .i64 ((h0+Am gone (xs.take j):Nat):Int))∧Blk Wj wo.heap.size 70 #[.pointer (some ⟨p,0,none⟩),ak gone]∧Marks hb Wj ds∧Below hb W Wj)
     (fun _ _ _=>False)
     (fun k a' Wj=>∃(x:aZ) (pv:Value) (B:Nat),xs[k]?=some x∧a'={ tmps:=(A0.tmps.setIfInBounds 36 (.agg #[.int .i64 x.1,pv])).setIfInBounds 10 (.pointer (some ⟨B,0,none⟩)),defers:=[] }∧Blk Wj B 201 #[.int .i64 x.1,pv]∧w1.heap.size+9≤B)
     ?hI (fun _ _ _ _ h _=>h) ?hAx ?h0 ?assign ?body ?done (fun _ _ _ _ _ _ h _=>h.elim)
    case hI =>
     rintro j A B ⟨h1,h2,h3,h4⟩ hi;refine⟨hi.boxed h1 (by omega),hi.get h2 (by omega),h3.keeps (fun D hD=>hi.low D (by have:=zW.out D hD;omega) (h3.lt D hD) (by have:=zW.out D hD;omega)),hi.below h4 (by omega) (by have:=(h1:Blk A hb _ _).lt;omega) (fun k h=>by omega)⟩
    case hAx =>
     rintro j a' A C ⟨x,v,B,h1,h2,h3,h5⟩ hi;exact⟨x,v,B,h1,h2,hi.get h3 (by omega),h5⟩
    case h0=>exact⟨aoM.out,adz.out,aoN.out,by have:=aS.out;unfold Q at this;rw[Dg] at this;exact this⟩
    case assign =>
     intro l' j hj W' args K hi QV hz hK;obtain⟨v,rfl,ho⟩:=QV;obtain⟨a,cap,rfl,lT⟩:=aT ho;have hB9:w1.heap.size+9≤W'.heap.size:=by
      obtain⟨g,rfl⟩:=lT (List.length_pos_iff.2 (uR.out _ (List.getElem_mem hj)).2.1);have:=ho.lt g rfl;omega
     obtain⟨h1,h2,h3,h4⟩:=hi;have hq:=Q.alloc W' (.cells #[.int .i64 xs[j].1,.slice a xs[j].2.length cap] 201);have hm:=Blk.new W' 201 #[.int .i64 xs[j].1,.slice a xs[j].2.length cap];have g1:Boxed _ hb 3 _:=aB hq h1;have g3:=h3.keeps (fun D hD=>hq.block D (h3.lt D hD))
     have g4:=h4.trans (Below.mono hq (by have:=(h1:Blk W' hb _ _).lt;omega))
     have GI:=Hd (And.intro g1 (And.intro (h2.stays hq) (And.intro g3 g4)));have GM:=Hd hm;have GQ:=Hd hq;have HK:=Hd hK;subst Ip;clear hq hm ho h1 h2 h3 h4 hK g1 g3 g4;gi_wp2;refine HK.out _ _ GQ.out GI.out ⟨xs[j],.slice a xs[j].2.length cap,W'.heap.size,List.getElem?_eq_getElem hj,?_,GM.out,by omega⟩
     rfl
    case body =>
     rintro l' j hj a' W' ⟨⟨rc,Nl⟩,Dt⟩ hl ⟨h1,h2,h3,h4⟩ ⟨x,pv,B,hx,rfl,hm,hB⟩ Ih hz;have KO:x=xs[j]:=by rw[List.getElem?_eq_getElem hj] at hx;exact(Option.some.inj hx).symm
     subst KO;have RL:=uR.out xs[j] (List.getElem_mem hj);have hht:=ahp gone xs j hj;have Sw:Am gone (xs.take j)≤500:=Nat.le_trans (haveP_le _ _) (by rw[List.length_take];omega)
     have Rf:=fun W=>mH gone xs[j].1 W (by omega) (by omega)
     have adA:DK gone xs[j].1=bit gone xs[j].1.toNat:=by unfold DK;rw[decide_eq_true (by omega)];rfl
     rw[adA] at Rf;subst Ip;obtain⟨m0,m1,_⟩:=hm.c2;obtain⟨r0,r1,_⟩:=h2.c2;have cv:=h1.cell;have fv:=h1.frozen;have hBl:=(h1:Blk W' hb _ _).lt;generalize Am gone (xs.take j)=hp at *;generalize xs[j].1=xd at *;have H1:=Hd h1;have H2:=Hd h2;have H3:=Hd h3;have H4:=Hd h4;have G:=Hd Rf;have HT:=Hd hht;clear h1 h2 h3 h4 hm hx RL hht Rf adA Nl Dt;simp only[List.setIfInBounds_toArray,List.set_cons_succ,List.set_cons_zero];cases zf:bit gone xd.toNat with
     | true =>
      rw[zf] at G HT;gi_wp2_with fail;refine⟨trivial,rfl,(nZ _ (G.out _)).mono ?_⟩;rintro e w' ⟨rfl,rfl⟩;gi_wp2_with fail;exact⟨Bk.refl _ _ _,by rw[HT.out];exact H1.out,H2.out,H3.out,H4.out⟩
     | false =>
      rw[zf] at G HT;gi_wp2_with fail;refine⟨trivial,rfl,(nZ _ (G.out _)).mono ?_⟩;rintro e w' ⟨rfl,rfl⟩;gi_wp2_with fail;have e1:Blk W' hb 3 #[.int .i64 ((h0+hp:Nat):Int)]:=H1.out;refine⟨Bk.setCell _ (by simp) ?_ _,?_,?_,?_,?_⟩
      ·rintro((h|h)|h)
       ·have h:=Nq.out _ h;simp at h;omega
       ·simp at h;omega
       ·simp at h;omega
      ·rw[HT.out]
       have hn:((h0+(hp+if false=true then 0 else 1):Nat):Int)=(h0:Int)+(hp:Int)+1:=by simp;omega
       rw[hn];exact e1.set 0 _
      ·exact H2.out.other ⟨hb,0,none⟩ _ (by simp;omega)
      ·exact H3.out.keeps (fun D hD=>Below.heap_setCell _ _ _ _ (fun e=>by
        have:=(H3.out.2 D hD).2;rw[e] at this;rw[show _=_ from e1] at this
        cases this))
      ·exact H4.out.setCell (by simp) _
    case done =>
     rintro D W' hD hz ⟨h1,h2,h3,h4⟩ hK;rw[List.take_length,←bJ.out] at h1;have vw:Q W W':=by unfold Q;rw[Dg];exact h4
     have JG:=h3.cons hK (by omega) (fun h=>by have:=zW.out D h;omega)
     have H1:=Hd h1;have xK:=Hd vw;have Wd:=Hd JG;subst Ip;clear h1 h2 h3 h4 hK JG vw bJ ai3 Nq V3 uR adz aoM aoN aS hh0;go_wp2_with fail;refine⟨?_,?measure⟩
     ·(repeat apply Exists.intro)
      refine⟨⟨k+1,D::ds,rfl,by omega,by go_num,xK,Wd,H1⟩,rfl⟩
     case measure=>simp[intOf];omega
   ·have cO:k=ps.length:=by omega
    subst cO;have vw:=HQ.out;have Wl:=HS.out.stays vw;obtain⟨s0,s1,s2,_⟩:=Wl.blk.c3;have hm9:=HM.out.stays vw;have als:=pI.out;rw[List.take_length] at als;have cv:=als.cell;have cw:=fun W=>Ah (n:Int) ((qZ (aH ps) t:Nat):Int) W (by omega) (by omega) (by omega) (by omega)
    rw[HWZ.out] at cw;generalize qZ (aH ps) t=hv at *;have CW:=Hd cw;have HS9:=Hd Wl;have Wd:=Hd hm9;have xK:=Hd vw;clear cw Wl hm9 vw als HQ pI HS HM BQ ni HB HWZ;go_wp2_with fail;refine wp_region_still_tail 11 (by kernel_rfl) (by kernel_rfl) ?_
    simp only[List.take_succ_cons,List.take_zero,List.drop_succ_cons,List.drop_zero];repeat still_step
    still_call ((CW.out _).mono (fun e w' h=>⟨h.1,h.2.symm⟩))
    refine wpStill_nil ?_;change wpList _ _ _ _ _ wo.drew;have Ms:Q wo wo.drew:=Q.drew _;have Dm:=Hd (HS9.out.stays Ms);have Mt:=Hd (Wd.out.stays Ms);have wu:=Hd (xK.out.trans Ms);have ai5:=Hd (Xz.out.keeps (fun D hD=>Ms.block D (Xz.out.lt D hD)))
    clear Ms HS9 Wd xK Xz CW s0 s1 s2 cv;generalize wo.drew=wd at *;go_wp2_with (at_mapUpdate;go_must (refine mJ wd (by rfl) _ _ _ 65 (by rfl) 9 3 Tryz.underlying65 Tryz.underlying9 mb m Mt.out t (.int .i64 (wt t:Nat)) (by rfl) (by rfl) (by rfl) ?_))
    intro w6 hm6 dB;have jP:=Dm.out.put Mt.out Du.out t hm6 dB;have Mv:Cs w₀.heap.size W w6:=(Cs.of_q wu.out).trans (Cs.map Mt.out dB jP.mb_ge);have mk6:Marks hb w6 ds:=ai5.out.keeps (fun D hD=>dB.block D (ai5.out.lt D hD) (fun e=>by
     have h1:=(ai5.out.2 D hD).2;injection e with e;obtain⟨es,clock,h2,_⟩:=Mt.out;rw[e,h2] at h1;cases h1))
    have hgp:getM t (fU t (.int .i64 (wt t:Nat)) m)=some (.int .i64 (wt t:Nat)):=by rw[get_put,if_pos rfl]
    obtain⟨s0,s1,s2,_⟩:=jP.blk.c3;have zQ:=Hd jP;have XA:=Hd Mv;have HK6:=Hd mk6;have HM6:=Hd hm6;have HGP:=Hd hgp;clear jP Mv mk6 hgp dB hm6 Dm Mt wu ai5 Du;go_wp2_with (at_lookup;go_must (refine rX w6 (by rfl) _ _ 65 false (by rfl) 9 3 Tryz.underlying65 Tryz.underlying9 (.int .i64 0) (I7 _) mb (fU t (.int .i64 (wt t:Nat)) m) HM6.out t (by rfl) (by rfl) ?_;rw[HGP.out]))
    refine PO hb (by simp) ds w6 HK6.out (fun W' hi=>⟨_,results_tmp rfl _ _ _,rfl,XA.out.trans (hi.mono (fun _ h=>h) Va),zQ.out.itk hi hmb Va⟩)
end
section
open Go.RowKit
def WksAt(z:Zone)(n B:Nat)(w:World)(v:Value)(Fs:List DF):Prop:=∃vs:List Value,SlW z w v Fs.length 1 vs∧∀i (h:i<Fs.length) u,vs[i]?=some u→IsWk z n B w u Fs[i]
theorem WksAt.stays{z:Zone}{n B:Nat}{w w':World}{v:Value}{Fs:List DF}(h:WksAt z n B w v Fs)(q:Ws z w w'):WksAt z n B w' v Fs:=by
 obtain⟨vs,h1,h2⟩:=h;exact⟨vs,q.sl h1,fun i hi u hu=>(h2 i hi u hu).stays q⟩
theorem WksAt.value{z:Zone}{n B:Nat}{w:World}{v:Value}{Fs:List DF}(h:WksAt z n B w v Fs):∃a cap,v=.slice a Fs.length cap∧(0<Fs.length→∃b off,a=some ⟨b,off,none⟩∧∀j (hj:j<Fs.length),∃u,w.cell? ⟨b,off+j,none⟩=some u∧IsWk z n B w u Fs[j]):=by
 obtain⟨vs,⟨⟨hl,a,cap,h2,h3⟩,_⟩,h4⟩:=h;refine⟨a,cap,h2,fun hn=>?_⟩
 obtain⟨b,off,h5,h6⟩:=h3 hn;refine⟨b,off,h5,fun j hj=>?_⟩
 have Es:j<vs.length:=by omega
 exact⟨vs[j],h6 j _ (List.getElem?_eq_getElem Es),h4 j hj _ (List.getElem?_eq_getElem Es)⟩
theorem ML(Fs:List DF)(B:Nat)(hB:∀F∈Fs,∀i s,F i=some s→s≤B)(i:Nat):jD (Fs.map fun F=>F i)≤Fs.length*B:=by
 induction Fs with
 | nil=>simp[jD]
 | cons F Fs ih =>
  have h1:=ih (fun G hG=>hB G (by simp[hG]))
  have h2:(F i).getD 0≤B:=by
   cases hf:F i with
   | none=>exact Nat.zero_le _
   | some x=>exact hB F (by simp) i x hf
  rw[List.map_cons,jD,List.length_cons,Nat.add_mul];omega
theorem abV(Fs:List DF)(B:Nat)(hB:∀F∈Fs,∀i s,F i=some s→s≤B)(i s:Nat)(h:lY Fs i=some s):s≤Fs.length*B:=by
 unfold lY at h;split at h
 ·cases h;exact ML Fs B hB i
 ·cases h
theorem someF_lt(Fs:List DF)(n:Nat)(hn:∀F∈Fs,∀i s,F i=some s→i<n)(i s:Nat)(h:lY Fs i=some s):i<n:=by
 unfold lY at h;split at h
 ·rename_i ha
  obtain⟨F,hF,hs⟩:=List.any_eq_true.1 ha;cases hf:F i with
  | none=>rw[hf] at hs;cases hs
  | some x=>exact hn F hF i x hf
 ·cases h
def ptAt(st:Option (Nat×Nat)):Nat:=(st.map (·.1)).getD 0
def ptSc(st:Option (Nat×Nat)):Nat:=(st.map (·.2)).getD 0
theorem Some_any{z:Zone}{n B:Nat}{w:World}{v:Value}{Fs:List DF}(doc:Nat)(W:World)(h:WksAt z n B w v Fs)(hq:Ws z w W)(hd:doc≤1000000)(hl:Fs.length≤1000000)(hB:B≤1000000000000):
  Calls Tryz.prog 239 #[.agg #[v],.int .i64 (doc:Nat)] W fun e w'=>SeekEnd (lY Fs) doc e∧Q W w':=by
 have h0:=h.stays hq;obtain⟨a,cap,rfl,hc⟩:=h0.value;have FQ:∀j (hj:j<Fs.length),∀i s,Fs[j] i=some s→s≤B:=fun j hj=>by
  obtain⟨b,off,_,h2⟩:=hc (by omega)
  obtain⟨u,_,h3⟩:=h2 j hj;exact fun i s hs=>(h3.fits i s hs).2
 have HC:=Hd hc;have HF:=Hd FQ;clear h hq h0 hc FQ;go_enter Tryz.func239,Tryz.ntmps239;go_wp2_with fail;go_loopw [7,8,9,18] (fun x y z i wr=>∃(k:Nat) (st:Option (Nat×Nat)),k≤Fs.length∧i=.int .i64 (k:Nat)∧x=.int .i64 (ptAt st:Nat)∧y=.int .i64 (ptSc st:Nat)∧z=.bool st.isSome∧Hid (jd (lY (Fs.take k)) doc st)∧Hid (Q W wr)) (fun _ _ _ i _=>Fs.length-(intOf i).toNat)
 case atStart=>exact⟨0,none,by omega,rfl,rfl,rfl,rfl,aav doc,Q.alloc _ _⟩
 case round =>
  obtain⟨k,st,hk,rfl,rfl,rfl,rfl,HN,HQ⟩:=hrel;obtain⟨wo,rfl⟩:∃wo:World,wo=wr:=⟨_,rfl⟩;by_cases hlt:k<Fs.length
  ·obtain⟨b,off,rfl,hc⟩:=HC.out (by omega)
   obtain⟨u,hu,hw⟩:=hc k hlt;have Mw:=ah HQ.out hu;obtain⟨t,x,g,rfl,hm,QI,hs⟩:=hw.is;have c:=hs wo doc (Ws.of_q HQ.out) hd;have zV:∀r,jd Fs[k] doc r→jd (lY (Fs.take (k+1))) doc (Jk st r):=fun r hr=>by
    rw[List.take_succ_eq_append_getElem hlt];exact next_snoc HN.out hr
   have Uc:ptSc st≤k*B:=by
    cases st with
    | none=>exact Nat.zero_le _
    | some p =>
     have:=abV (Fs.take k) B (fun F hF=>by
      obtain⟨j,hj⟩:=List.getElem?_of_mem hF;rw[List.getElem?_take] at hj;split at hj
      ·obtain⟨Nv,rfl⟩:=List.getElem?_eq_some_iff.1 hj
       exact HF.out j Nv
      ·cases hj) p.1 p.2 HN.out.2.1
     rw[List.length_take,Nat.min_eq_left hk] at this;exact this
   have atv:k*B≤1000000000000000000:=by
    have:k*B≤1000000*1000000000000:=Nat.mul_le_mul (by omega) hB
    omega
   have Xf:=HF.out k hlt;have C:=Hd c;have GN:=Hd zV;have Qr:=Hd Xf;have oP:ptSc st≤1000000000000000000:=by omega
   clear c hs zV hc hu hw Uc atv Xf HN;go_wp2_with fail;refine C.out.mono ?_;rintro e w1 ⟨(⟨d,s,rfl,hx⟩|⟨d,s,rfl,hx⟩),q1⟩
   ·have hsB:=Qr.out d s hx.2.1
    have Wl:s≤1000000000000:=Nat.le_trans hsB hB;have kQ:=Hd (GN.out _ hx);have aS:=Hd (HQ.out.trans q1);clear hx q1 C GN Qr hsB hm QI Mw;cases st with
    | none =>
     simp only[ptAt,ptSc,Option.map_none,Option.getD_none,Option.isSome_none] at *;go_wp2_with fail;go_roundw;case rel=>exact⟨k+1,some (d,s),by omega,by go_num,rfl,rfl,rfl,kQ,aS⟩
     case measure=>simp[intOf];omega
    | some p =>
     obtain⟨a0,t0⟩:=p;simp only[ptAt,ptSc,Option.map_some,Option.getD_some,Option.isSome_some] at *;by_cases h1:a0<d
     ·have hb:decide ((a0:Int)<(d:Int))=true:=decide_eq_true (by omega)
      have Jy:decide (a0<d)=true:=decide_eq_true h1;have XB:Hid (jd (lY (Fs.take (k+1))) doc (some (a0,t0))):=by have:=kQ.out;simp only[Jk,if_pos h1] at this;exact this
      clear kQ h1;go_wp2_with fail;go_roundw;case rel=>exact⟨k+1,some (a0,t0),by omega,by go_num,rfl,rfl,rfl,XB,aS⟩
      case measure=>simp[intOf];omega
     ·have hb:decide ((a0:Int)<(d:Int))=false:=decide_eq_false (by omega)
      have Jy:decide (a0<d)=false:=decide_eq_false h1;by_cases h2:d=a0
      ·subst h2
       have XB:Hid (jd (lY (Fs.take (k+1))) doc (some (d,t0+s))):=by have:=kQ.out;simp only[Jk,if_neg h1,if_pos] at this;exact this
       clear kQ h1;have aO:((d:Int)==(d:Int))=true:=by simp
       go_wp2_with fail;go_roundw;case rel=>exact⟨k+1,some (d,t0+s),by omega,by go_num,rfl,by simp[ptSc],rfl,XB,aS⟩
       case measure=>simp[intOf];omega
      ·have XB:Hid (jd (lY (Fs.take (k+1))) doc (some (d,s))):=by have:=kQ.out;simp only[Jk,if_neg h1,if_neg h2] at this;exact this
       have aO:((d:Int)==(a0:Int))=false:=beq_eq_false_iff_ne.2 (by omega)
       clear kQ h1 h2;go_wp2_with fail;go_roundw;case rel=>exact⟨k+1,some (d,s),by omega,by go_num,rfl,rfl,rfl,XB,aS⟩
       case measure=>simp[intOf];omega
   ·have kQ:=Hd (GN.out _ hx);have aS:=Hd (HQ.out.trans q1)
    clear hx q1 C GN Qr hm QI Mw;have XB:Hid (jd (lY (Fs.take (k+1))) doc st):=by have:=kQ.out;cases st<;>exact this
    clear kQ;generalize hA:ptAt st=pa at *;generalize hS:ptSc st=ps at *;generalize hI:st.isSome=pi at *;have HA:=Hd hA;have HS:=Hd hS;have HI:=Hd hI;clear hA hS hI;go_wp2_with fail;go_roundw;case rel=>exact⟨k+1,st,by omega,by go_num,by rw[HA.out],by rw[HS.out],by rw[HI.out],XB,aS⟩
    case measure=>simp[intOf];omega
  ·have cO:k=Fs.length:=by omega
   subst cO;have kQ:Hid (jd (lY Fs) doc st):=by have:=HN.out;rwa [List.take_length] at this
   clear HN hlt;cases st with
   | none =>
    simp only[ptAt,ptSc,Option.map_none,Option.getD_none,Option.isSome_none] at *;go_wp2_with fail;go_ret3;exact⟨SeekEnd.no (d:=0) (s:=0) rfl kQ.out,HQ.out⟩
   | some p =>
    obtain⟨a0,t0⟩:=p;simp only[ptAt,ptSc,Option.map_some,Option.getD_some,Option.isSome_some] at *;go_wp2_with fail;go_ret3;exact⟨SeekEnd.yes (d:=a0) (s:=t0) rfl kQ.out,HQ.out⟩
theorem IsWk.someOf{z:Zone}{n B:Nat}{w:World}{v:Value}{Fs:List DF}(h:WksAt z n B w v Fs)(hl:Fs.length≤1000000)(hB:B≤1000000000000):IsWk z n (Fs.length*B) w (.iface 176 (.agg #[v])) (lY Fs):=by
 have FQ:∀F∈Fs,∀i s,F i=some s→i<n∧s≤B:=fun F hF=>by
  obtain⟨j,hj⟩:=List.getElem?_of_mem hF;obtain⟨Nv,rfl⟩:=List.getElem?_eq_some_iff.1 hj;obtain⟨a,cap,_,hc⟩:=h.value;obtain⟨b,off,_,h2⟩:=hc (by omega)
  obtain⟨u,_,h3⟩:=h2 j Nv;exact h3.fits
 exact⟨fun i s hs=>⟨someF_lt Fs n (fun F hF i s hs=>(FQ F hF i s hs).1) i s hs,abV Fs B (fun F hF i s hs=>(FQ F hF i s hs).2) i s hs⟩,
  _,_,239,rfl,fun W=>by kernel_rfl,enters_of Tryz.func239 (by kernel_rfl) rfl,fun W doc hq hd=>Some_any doc W h hq hd hl hB⟩
theorem Zn(Fs:List DF)(i k:Nat)(h:k<Fs.length):jD ((Fs.take (k+1)).map fun F=>F i)=jD ((Fs.take k).map fun F=>F i)+(Fs[k] i).getD 0:=by
 rw[List.take_succ_eq_append_getElem h,List.map_append,Tm];simp[jD]
theorem all_take(Fs:List DF)(i k:Nat)(h:k<Fs.length):((Fs.take (k+1)).all fun F=>(F i).isSome)=(((Fs.take k).all fun F=>(F i).isSome)&&(Fs[k] i).isSome):=by
 rw[List.take_succ_eq_append_getElem h,List.all_append];simp
theorem any_take(Fs:List DF)(i k:Nat)(h:k<Fs.length):((Fs.take (k+1)).any fun F=>(F i).isSome)=(((Fs.take k).any fun F=>(F i).isSome)||(Fs[k] i).isSome):=by
 rw[List.take_succ_eq_append_getElem h,List.any_append];simp
theorem all_no(Fs:List DF)(i k:Nat)(h:k<Fs.length)(hn:Fs[k] i=none):(Fs.all fun F=>(F i).isSome)=false:=by
 rw[List.all_eq_false];exact⟨Fs[k],List.getElem_mem h,by rw[hn];simp⟩
theorem any_yes(Fs:List DF)(i k:Nat)(h:k<Fs.length)(hn:(Fs[k] i).isSome=true):(Fs.any fun F=>(F i).isSome)=true:=List.any_eq_true.2 ⟨Fs[k],List.getElem_mem h,hn⟩
theorem WksAt.fits{z:Zone}{n B:Nat}{w:World}{v:Value}{Fs:List DF}(h:WksAt z n B w v Fs):∀F∈Fs,∀i s,F i=some s→i<n∧s≤B:=fun F hF=>by
 obtain⟨j,hj⟩:=List.getElem?_of_mem hF
 obtain⟨Nv,rfl⟩:=List.getElem?_eq_some_iff.1 hj
 obtain⟨a,cap,_,hc⟩:=h.value
 obtain⟨b,off,_,h2⟩:=hc (by omega)
 obtain⟨u,_,h3⟩:=h2 j Nv
 exact h3.fits
theorem abW{α:Type}{l:List α}{k:Nat}{x:α}(h:x∈l.take k):x∈l:=List.mem_of_mem_take h
theorem Zo{M S N:List DF}{i:Nat}(h:(M.all fun F=>(F i).isSome)=false):lZ M S N i=none:=by unfold lZ;rw[h];rfl
theorem bothF_no2{M S N:List DF}{i:Nat}(h:(N.any fun F=>(F i).isSome)=true):lZ M S N i=none:=by unfold lZ;rw[h];simp
theorem bothF_yes{M S N:List DF}{i:Nat}(h:(M.all fun F=>(F i).isSome)=true)(h2:(N.any fun F=>(F i).isSome)=false):lZ M S N i=some (jD (M.map fun F=>F i)+jD (S.map fun F=>F i)):=by unfold lZ;rw[h,h2];rfl
def HereEnd(r:Option Nat)(e:Ending):Prop:=∃s:Nat,e=.returned (.tuple #[.int .i64 (s:Nat),.bool r.isSome])∧∀x,r=some x→s=x
theorem HereEnd.no{r:Option Nat}{e:Ending}(s:Nat)(he:e=.returned (.tuple #[.int .i64 (s:Nat),.bool false]))(h:r=none):HereEnd r e:=⟨s,by rw[he,h];rfl,fun x hx=>by rw[h] at hx;cases hx⟩
theorem HereEnd.yes{r:Option Nat}{e:Ending}(s:Nat)(he:e=.returned (.tuple #[.int .i64 (s:Nat),.bool true]))(h:r=some s):HereEnd r e:=⟨s,by rw[he,h];rfl,fun x hx=>by rw[h] at hx;cases hx;rfl⟩
theorem Here_any{z:Zone}{n B:Nat}{w:World}{vm vs vn:Value}{M S N:List DF}(doc:Nat)(W:World)(hm:WksAt z n B w vm M)(hs:WksAt z n B w vs S)(hn:WksAt z n B w vn N)(hq:Ws z w W)(hd:doc≤1000000)(hl:M.length≤1000∧S.length≤1000∧N.length≤1000)(hB:B≤1000000000000000):
  Calls Tryz.prog 241 #[.agg #[vm,vs,vn],.int .i64 (doc:Nat)] W fun e w'=>HereEnd (lZ M S N doc) e∧Q W w':=by
 have fm:=hm.fits;have fs:=hs.fits;obtain⟨l1,l2,l3⟩:=hl;obtain⟨am,cm,rfl,KT⟩:=(hm.stays hq).value;obtain⟨as_,cs,rfl,tN⟩:=(hs.stays hq).value;obtain⟨an,cn,rfl,XC⟩:=(hn.stays hq).value;have bM:∀k,k≤M.length→jD ((M.take k).map fun F=>F doc)≤1000000000000000000:=fun k hk=>by
  have h1:=ML (M.take k) B (fun F hF i s h=>(fm F (abW hF) i s h).2) doc
  have h2:(M.take k).length*B≤1000*1000000000000000:=Nat.mul_le_mul (by rw[List.length_take];omega) hB
  omega
 have bS:∀k,k≤S.length→jD ((S.take k).map fun F=>F doc)≤1000000000000000000:=fun k hk=>by
  have h1:=ML (S.take k) B (fun F hF i s h=>(fs F (abW hF) i s h).2) doc
  have h2:(S.take k).length*B≤1000*1000000000000000:=Nat.mul_le_mul (by rw[List.length_take];omega) hB
  omega
 have jM:∀F∈M++S,(F doc).getD 0≤1000000000000000:=fun F hF=>by
  cases h:F doc with
  | none=>exact Nat.zero_le _
  | some x =>
   rcases List.mem_append.1 hF with hF|hF
   ·exact Nat.le_trans (fm F hF doc x h).2 hB
   ·exact Nat.le_trans (fs F hF doc x h).2 hB
 have HCM:=Hd KT;have QD:=Hd tN;have HCN:=Hd XC;have BM:=Hd bM;have BS:=Hd bS;have FP:=Hd jM;clear hm hs hn hq KT tN XC fm fs bM bS jM;go_enter Tryz.func241,Tryz.ntmps241;go_wp2_with fail;have iR:=Q.alloc W (.cells #[.slice am M.length cm,.slice as_ S.length cs,.slice an N.length cn] 193);have gY:=Blk.new W 193 #[.slice am M.length cm,.slice as_ S.length cs,.slice an N.length cn];have jk:=Hd iR;have Rh:=Hd gY;clear iR gY;go_loopw [6,22] (fun x i wr=>∃k:Nat,k≤M.length∧i=.int .i64 (k:Nat)∧x=.int .i64 (jD ((M.take k).map fun F=>F doc):Nat)∧Hid (((M.take k).all fun F=>(F doc).isSome)=true)∧Hid (Q W wr)∧Hid (Blk wr W.heap.size 193 #[.slice am M.length cm,.slice as_ S.length cs,.slice an N.length cn])) (fun _ i _=>M.length-(intOf i).toNat)
 case atStart=>exact⟨0,by omega,rfl,rfl,rfl,jk.out,Rh.out⟩
 case round =>
  obtain⟨k,hk,rfl,rfl,HA,HQ,HK⟩:=hrel;obtain⟨wo,rfl⟩:∃wo:World,wo=wr:=⟨_,rfl⟩;by_cases hlt:k<M.length
  ·obtain⟨b,off,rfl,hc⟩:=HCM.out (by omega)
   obtain⟨u,hu,hw⟩:=hc k hlt;have Mw:=ah HQ.out hu;have c:=NV doc (hw.stays (Ws.of_q HQ.out)) hd;have mY:=Zn M doc k hlt;have dI:=all_take M doc k hlt;have fE:=all_no M doc k hlt;have b1:=BM.out k hk;have b2:=FP.out M[k] (List.mem_append_left _ (List.getElem_mem hlt));cases hf:M[k] doc with
   | none =>
    rw[hf] at c;have nN:=Hd (fE hf);have C:=Hd c;clear fE c mY dI hf hu hw hc b2;generalize jD ((M.take k).map fun F=>F doc)=sc at *
    go_wp2_with fail;refine C.out.mono ?_;rintro e w1 ⟨⟨s,rfl,_⟩,q1⟩;have aC:=Hd (HQ.out.trans q1);clear q1 C;simp only[Option.isSome_none];go_wp2_with fail;go_ret2;exact⟨HereEnd.no 0 rfl (Zo nN.out),aC.out⟩
   | some x =>
    rw[hf] at c mY dI b2;simp only[Option.getD_some,Option.isSome_some,Bool.and_true] at mY dI b2;rw[HA.out] at dI;have adB:=Hd mY;have yZ:=Hd dI;have C:=Hd c;clear fE c mY dI hf hu hw hc;generalize jD ((M.take k).map fun F=>F doc)=sc at *
    go_wp2_with fail;refine C.out.mono ?_;rintro e w1 ⟨⟨s,rfl,hs⟩,q1⟩;have Ld:s=x:=hs x rfl;subst Ld;have aC:=Hd (HQ.out.trans q1);have vP:=Hd (HK.out.stays q1);clear q1 C hs;simp only[Option.isSome_some];go_wp2_with fail;go_roundw;case rel=>exact⟨k+1,by omega,by go_num,by rw[adB.out];go_num,yZ,aC,vP⟩
    case measure=>simp[intOf];omega
  ·have cO:k=M.length:=by omega
   subst cO;have dI:=HA.out;rw[List.take_length] at dI;have bm:=BM.out M.length (Nat.le_refl _);simp only[List.take_length] at bm ⊢;obtain⟨m0,m1,m2,_⟩:=HK.out.c3;have yZ:=Hd dI;have aS:=HQ;have AO:=HK;clear dI HA HQ HK hlt jk Rh;obtain⟨sm,lT⟩:∃x,x=jD (M.map fun F=>F doc):=⟨_,rfl⟩
   rw[←lT] at bm ⊢;have Xx:=Hd lT;clear lT;go_wp2_with fail;obtain⟨w2,nV⟩:∃w2:World,w2=wo:=⟨_,rfl⟩;go_loopw [41] (fun i wr=>∃k:Nat,k≤N.length∧i=.int .i64 (k:Nat)∧Hid (((N.take k).any fun F=>(F doc).isSome)=false)∧Hid (Q W wr)∧Hid (Blk wr W.heap.size 193 #[.slice am M.length cm,.slice as_ S.length cs,.slice an N.length cn])) (fun i _=>N.length-(intOf i).toNat)
   case atStart=>exact⟨0,by omega,rfl,rfl,aS.out,AO.out⟩
   case round =>
    obtain⟨k,hk,rfl,HA,HQ,HK⟩:=hrel;clear m0 m1 m2 nV aS AO;obtain⟨wo,rfl⟩:∃wo:World,wo=wr:=⟨_,rfl⟩;by_cases hlt:k<N.length
    ·obtain⟨b,off,rfl,hc⟩:=HCN.out (by omega)
     obtain⟨u,hu,hw⟩:=hc k hlt;have Mw:=ah HQ.out hu;have c:=NV doc (hw.stays (Ws.of_q HQ.out)) hd;have JH:=any_take N doc k hlt;have Vl:=any_yes N doc k hlt;rw[HA.out] at JH;simp only[Bool.false_or] at JH;cases hf:N[k] doc with
     | some x =>
      rw[hf] at c Vl;have HY:=Hd (Vl rfl);have C:=Hd c;clear Vl c JH hf hu hw hc;go_wp2_with fail;refine C.out.mono ?_;rintro e w1 ⟨⟨s,rfl,_⟩,q1⟩;have aC:=Hd (HQ.out.trans q1);clear q1 C;simp only[Option.isSome_some];go_wp2_with fail;go_ret2;exact⟨HereEnd.no 0 rfl (bothF_no2 HY.out),aC.out⟩
     | none =>
      rw[hf] at c JH;simp only[Option.isSome_none] at JH;have alu:=Hd JH;have C:=Hd c;clear Vl c JH hf hu hw hc;go_wp2_with fail;refine C.out.mono ?_;rintro e w1 ⟨⟨s,rfl,hs⟩,q1⟩;have aC:=Hd (HQ.out.trans q1);have vP:=Hd (HK.out.stays q1);clear q1 C hs;simp only[Option.isSome_none];go_wp2_with fail;go_roundw;case rel=>exact⟨k+1,by omega,by go_num,alu,aC,vP⟩
      case measure=>simp[intOf];omega
    ·have cO:k=N.length:=by omega
     subst cO;have JH:=HA.out;rw[List.take_length] at JH;obtain⟨m0,m1,m2,_⟩:=HK.out.c3;have alu:=Hd JH;have aS:=HQ;have AO:=HK;clear JH HA HQ HK hlt;go_wp2_with fail;go_loopw [6,56] (fun x i wr=>∃k:Nat,k≤S.length∧i=.int .i64 (k:Nat)∧x=.int .i64 (sm+jD ((S.take k).map fun F=>F doc):Nat)∧Hid (Q W wr)) (fun _ i _=>S.length-(intOf i).toNat)
     case atStart=>exact⟨0,by omega,rfl,rfl,aS.out⟩
     case round =>
      obtain⟨k,hk,rfl,rfl,HQ⟩:=hrel;clear m0 m1 m2 aS AO;obtain⟨wo,rfl⟩:∃wo:World,wo=wr:=⟨_,rfl⟩;by_cases hlt:k<S.length
      ·obtain⟨b,off,rfl,hc⟩:=QD.out (by omega)
       obtain⟨u,hu,hw⟩:=hc k hlt;have Mw:=ah HQ.out hu;have c:=NV doc (hw.stays (Ws.of_q HQ.out)) hd;have mY:=Zn S doc k hlt;have b1:=BS.out k hk;have b2:=FP.out S[k] (List.mem_append_right _ (List.getElem_mem hlt));cases hf:S[k] doc with
       | none =>
        rw[hf] at c mY;simp only[Option.getD_none,Nat.add_zero] at mY;have adB:=Hd mY;have C:=Hd c;clear c mY hf hu hw hc b2;generalize jD ((S.take k).map fun F=>F doc)=sc at *
        go_wp2_with fail;refine C.out.mono ?_;rintro e w1 ⟨⟨s,rfl,_⟩,q1⟩;have aC:=Hd (HQ.out.trans q1);clear q1 C;simp only[Option.isSome_none];go_wp2_with fail;go_roundw;case rel=>exact⟨k+1,by omega,by go_num,by rw[adB.out],aC⟩
        case measure=>simp[intOf];omega
       | some x =>
        rw[hf] at c mY b2;simp only[Option.getD_some] at mY b2;have adB:=Hd mY;have C:=Hd c;clear c mY hf hu hw hc;generalize jD ((S.take k).map fun F=>F doc)=sc at *
        go_wp2_with fail;refine C.out.mono ?_;rintro e w1 ⟨⟨s,rfl,hs⟩,q1⟩;have Ld:s=x:=hs x rfl;subst Ld;have aC:=Hd (HQ.out.trans q1);clear q1 C hs;simp only[Option.isSome_some];go_wp2_with fail;go_roundw;case rel=>exact⟨k+1,by omega,by go_num,by rw[adB.out];go_num,aC⟩
        case measure=>simp[intOf];omega
      ·have cO:k=S.length:=by omega
       subst cO;simp only[List.take_length];have hf:=bothF_yes (S:=S) yZ.out alu.out;rw[←Xx.out] at hf;have HF:=Hd hf;clear hf;generalize sm+jD (S.map fun F=>F doc)=tot at *
       go_wp2_with fail;go_ret2;exact⟨HereEnd.yes tot rfl HF.out,HQ.out⟩
theorem ahw{n B:Nat}{M S N:List DF}(hM:∀F∈M,∀i s,F i=some s→i<n∧s≤B)(hS:∀F∈S,∀i s,F i=some s→i<n∧s≤B)(aF:0<M.length)(i s:Nat)(h:lZ M S N i=some s):i<n∧s≤(M.length+S.length)*B:=by
 unfold lZ at h;split at h
 ·rename_i ha
  cases h;rw[Bool.and_eq_true] at ha;have h0:=List.all_eq_true.1 ha.1 M[0] (List.getElem_mem aF);refine⟨?_,?_⟩
  ·cases hf:M[0] i with
   | none=>rw[hf] at h0;cases h0
   | some x=>exact(hM _ (List.getElem_mem aF) i x hf).1
  ·have h1:=ML M B (fun F hF i s h=>(hM F hF i s h).2) i
   have h2:=ML S B (fun F hF i s h=>(hS F hF i s h).2) i
   rw[Nat.add_mul];omega
 ·cases h
theorem Both_any{z:Zone}{n B:Nat}{w:World}{vm vs vn:Value}{M S N:List DF}(doc:Nat)(W:World)(hm:WksAt z n B w vm M)(hs:WksAt z n B w vs S)(hn:WksAt z n B w vn N)(hq:Ws z w W)(hd:doc≤1000000)(hl:M.length≤1000∧S.length≤1000∧N.length≤1000)(hB:B≤1000000000000000)(aF:0<M.length)(qG:n≤900000):
  Calls Tryz.prog 242 #[.agg #[vm,vs,vn],.int .i64 (doc:Nat)] W fun e w'=>SeekEnd (lZ M S N) doc e∧Q W w':=by
 have ch:=fun doc W hq hd=>Here_any doc W hm hs hn hq hd hl hB
 have fm:=hm.fits;obtain⟨am,cm,rfl,KT⟩:=(hm.stays hq).value;obtain⟨as_,cs,rfl,_⟩:=(hs.stays hq).value;obtain⟨an,cn,rfl,_⟩:=(hn.stays hq).value;obtain⟨b0,off,rfl,hc⟩:=KT aF;obtain⟨u,hu,hw⟩:=hc 0 aF;rw[Nat.add_zero] at hu;have ff:=fm M[0] (List.getElem_mem aF);have fE:∀j,M[0] j=none→lZ M S N j=none:=fun j hj=>Zo (all_no M j 0 aF hj)
 obtain⟨t,x,g,rfl,vT,QI,Mx⟩:=hw.is;obtain⟨ml,ET⟩:∃ml,ml=M.length:=⟨_,rfl⟩;have ax7:0<ml:=by omega
 rw[←ET];have HCH:=Hd ch;have HSK:=Hd Mx;have Ga:=Hd ff;have nN:=Hd fE;have HU:=Hd hu;have ME:=Hd hq;have XD:=Hd ET;clear hm hs hn hq KT fm hc hu hw ch Mx ff fE ET;rw[show(doc:Nat)=doc from rfl]
 go_enter Tryz.func242,Tryz.ntmps242;go_wp2_with fail;have iR:=Q.alloc W (.cells #[.slice (some ⟨b0,off,none⟩) ml cm,.slice as_ S.length cs,.slice an N.length cn] 193);have gY:=Blk.new W 193 #[.slice (some ⟨b0,off,none⟩) ml cm,.slice as_ S.length cs,.slice an N.length cn];have jk:=Hd iR;have Rh:=Hd gY;clear iR gY;go_loopw [1] (fun i wr=>∃k:Nat,doc≤k∧k≤1000000∧i=.int .i64 (k:Nat)∧Hid (∀j,doc≤j→j<k→lZ M S N j=none)∧Hid (Q W wr)∧Hid (Blk wr W.heap.size 193 #[.slice (some ⟨b0,off,none⟩) ml cm,.slice as_ S.length cs,.slice an N.length cn])) (fun i _=>1000001-(intOf i).toNat)
 case atStart=>exact⟨doc,Nat.le_refl _,hd,rfl,fun j h1 h2=>by omega,jk.out,Rh.out⟩
 case round =>
  obtain⟨k,gY,hk,rfl,HN,HQ,HK⟩:=hrel;obtain⟨wo,rfl⟩:∃wo:World,wo=wr:=⟨_,rfl⟩;obtain⟨m0,m1,m2,_⟩:=HK.out.c3;have hu:=ah HQ.out HU.out;have c:=HSK.out wo k (Ws.of_q HQ.out) hk;have C:=Hd c;have ai6:(0:Int)<(ml:Int):=by omega
  clear c;go_wp2_with fail;refine C.out.mono ?_;rintro e w1 ⟨(⟨d,s,rfl,hx⟩|⟨d,s,rfl,hx⟩),q1⟩
  ·have R8:=(Ga.out d s hx.2.1).1
   have hd9:d≤900000:=by omega
   have Sg:=hx.1;have yw:∀j,doc≤j→j<d→lZ M S N j=none:=fun j h1 h2=>by
    by_cases hj:j<k
    ·exact HN.out j h1 hj
    ·exact nN.out j (hx.2.2 j (by omega) h2)
   have jS:=HQ.out.trans q1;have c:=HCH.out d w1 (ME.out.trans (Ws.of_q jS)) (by omega)
   rw[←XD.out] at c;have vO:=HK.out.stays q1;obtain⟨z0,z1,z2,_⟩:=vO.c3;have C2:=Hd c;have aC:=Hd jS;have Ub:=Hd yw;have vP:=Hd vO;clear c jS yw vO hx q1 C R8 m0 m1 m2 hu HK HQ HN;go_wp2_with fail;refine C2.out.mono ?_;rintro e w2 ⟨⟨s2,rfl,kE⟩,q2⟩;have aS:=Hd (aC.out.trans q2);have AO:=Hd (vP.out.stays q2);clear q2 C2 z0 z1 z2;cases hb:lZ M S N d with
   | some y =>
    have e2:s2=y:=kE y hb;subst e2;have HB:=Hd hb;clear hb kE;simp only[Option.isSome_some];go_wp2_with fail;go_ret3;exact⟨SeekEnd.yes (d:=d) (s:=s2) rfl ⟨by omega,HB.out,Ub.out⟩,aS.out⟩
   | none =>
    have rD:∀j,doc≤j→j<d+1→lZ M S N j=none:=fun j h1 h2=>by
     by_cases hj:j<d
     ·exact Ub.out j h1 hj
     ·rw[show j=d by omega];exact hb
    have kQ:=Hd rD;clear rD hb kE Ub;simp only[Option.isSome_none];go_wp2_with fail;go_roundw;case rel=>exact⟨d+1,by omega,by omega,by go_num,kQ,aS,AO⟩
    case measure=>simp[intOf];omega
  ·have yw:∀j,doc≤j→lZ M S N j=none:=fun j h1=>by
    by_cases hj:j<k
    ·exact HN.out j h1 hj
    ·exact nN.out j (hx j (by omega))
   have Ub:=Hd yw;have aC:=Hd (HQ.out.trans q1);clear yw hx q1 C m0 m1 m2 hu HK HQ HN;go_wp2_with fail;go_ret3;exact⟨SeekEnd.no (d:=0) (s:=0) rfl Ub.out,aC.out⟩
theorem IsWk.bothOf{z:Zone}{n B:Nat}{w:World}{vm vs vn:Value}{M S N:List DF}(hm:WksAt z n B w vm M)(hs:WksAt z n B w vs S)(hn:WksAt z n B w vn N)(hl:M.length≤1000∧S.length≤1000∧N.length≤1000)(hB:B≤1000000000000000)(aF:0<M.length)(qG:n≤900000):
  IsWk z n ((M.length+S.length)*B) w (.iface 193 (.agg #[vm,vs,vn])) (lZ M S N) :=
 ⟨ahw hm.fits hs.fits aF,_,_,242,rfl,fun W=>by kernel_rfl,enters_of Tryz.func242 (by kernel_rfl) rfl,fun W doc hq hd=>Both_any doc W hm hs hn hq hd hl hB aF qG⟩
end
end Go.Proofs.YthijhicdmnoifaaGreatDoor
