/- Joined: WRef3d to WRef4c -/
import Derived.Test.YtbkahhebmpehnaaGreatDoorCXWJrnI
set_option linter.all false
set_option maxRecDepth 100000
set_option maxHeartbeats 8000000
namespace Go.Proofs.YtbkahhebmpehnaaGreatDoor
open Go.Proofs.Tryz
section
open Go.RowKit
theorem Kd(W0:World){w:World}{ops:Array Oper}{o:Oper}{a:Act}{K:Act→World→Prop}{Qx:Exit→Act→World→Prop}{E:Prop}(pQ:o.guard=none)(s x:Operand)
  (ho:o.op=.call { callee:=.builtin .append,args:=#[s,x],argTypes:=#[102,102] })
  (v:Value) (n:Nat) (xs:List WrL) (hs:a.eval s=v) (aF:w.ownsRow W0.heap.size 134 2 v n (aN xs)) (hq:Q W0 w)
  (vx:Value) (m:Nat) (ys:List WrL) (hx:a.eval x=vx) (hl:Sl w vx m 2 (aN ys)) (qO:n+m≤1000000000) (yJ:∀u∈aN ys,u.oneCell'=true)
  (h:∀v' w',w'.ownsRow W0.heap.size 134 2 v' (n+m) (aN (xs++ys))→Q W0 w'→K (a.put o.dst v') w') :
  if Region.wanted o (yielded ops a.tmps)=true then Oper.wp prog o a w K Qx else E:=by
 obtain⟨i0,hi,bY,bB,aW⟩:=info_parts nC;have hw:Region.wanted o (yielded ops a.tmps)=true:=by simp[Region.wanted,pQ]
 rw[Φ hw];refine wZ w s x 102 ho W0.heap.size 134 i0 (.agg #[.int .i64 0,ah []]) 2 24 underlying102 hi bY bB aW rfl Z v n (aN xs) hs aF vx m (aN ys) hx hl yJ (by unfold maxLen;omega) U hq.size ?_
 ·intro v' w' h2 h3 _
  exact h v' w' (by rw[iF];exact h2) (bD hq aF h3 (Ω _) hq.size)
theorem pL(w:World)(x:Nat)(y:Bytes):Sl (w.alloc (.cells #[.int .i64 (x:Nat),ah y] 134)) (.slice (some ⟨w.heap.size,0,none⟩) 1 1) 1 2 (aN [(x,y)]) :=
 Sl.lit w #[.int .i64 (x:Nat),ah y] 134 1 2 rfl
theorem J0(x:Nat)(y:Bytes):∀u∈aN [(x,y)],u.oneCell'=true:=by
 intro u hu;simp[aN,mX] at hu;rcases hu with rfl|rfl<;>rfl
def sy(ls:List Bytes)(w:World)(e:Ending)(w':World):Prop :=
 (∃a v x,e=.returned (.tuple #[a,v,.int .i64 x])∧(eD ls=none→x≠0)∧∀seq ws,eD ls=some (seq,ws)→x=0∧a=.int .u64 (seq:Nat)∧w'.ownsRow w.heap.size 134 2 v ws.length (aN ws))∧Q w w'
theorem Vi(w:World)(base:Nat)(lv:Value)(ls:List Bytes)(h:w.ownsRow base 9 1 lv ls.length (ls.map ah))(hn:ls.length≤49)(hl:∀s∈ls,s.length=256):
  Calls prog 245 #[lv] w fun e w'=>sy ls w e w':=by
 obtain⟨la,lc,rfl,om⟩:=aY h;have bX:=Sl.cx h;cases ls with
 | nil =>
  go_enter func245,ntmps245;go_wp2_with fail;go_ret3;exact⟨⟨_,_,_,rfl,fun _=>Z,fun _ _ hc=>by simp[eD] at hc⟩,Q.refl _⟩
 | cons b rest =>
  obtain⟨lb,rfl⟩:=om κ;have tO:∀k (hk:k<(b::rest).length),w.cell? ⟨lb,k,none⟩=some (ah ((b::rest).getD k [])):=fun k hk=>iy bX κ k _ (MR _ k hk)
  have x0:=tO 0 κ;simp only[acL] at x0;have hb:=hl b (Mu ..);have cr:=Vh b hb;rw[Θ] at *;have nV:eD (b::rest)=match dV b with
   | none=>none
   | some (seq,at_)=>if rest.length<at_.length∨∃s∈rest.take at_.length,s.length≠256 then none
     else if aB (fU (b.take 248++(rest.take at_.length).flatten))=(b.drop 248).take 4 then some (seq,at_.zip rest) else none:=rfl
  have aeX:=fun (s:Bytes) (hs:s.length≤1000000) (W:World)=>EJ s W U
  have FQ:=fun (v:Nat) (hv:v<4294967296) (W:World)=>ru v W hv
  have CR:=Hd cr;have HL:=Hd hl;have HC:=Hd tO;have zL:=Hd nV;have HB:=Hd hb;have CCC:=Hd aeX;have CF:=Hd FQ;clear cr hl tO nV bX h hb aeX FQ;have aU:((rest.length:Int)+1==0)=false:=Γ.2 U;have Du:(0:Int)<(rest.length:Int)+1:=U;have am2:¬((rest.length:Int)+1=0):=U;go_enter func245,ntmps245;go_wp2_with fail;refine(CR.out w).mono ?_;rintro e w1 (⟨Hq,rfl,q1⟩|⟨seq,at_,v,Hq,jy,rfl,hr,q1⟩)
  ·have bI:eD (b::rest)=none:=by rw[zL.out,Hq]
   have dY:=Hd bI;have dF:=Hd q1;clear bI Hq q1;go_wp2_with fail;go_ret3;exact⟨⟨_,_,_,rfl,fun _=>Z,fun _ _ hc=>by rw[dY.out] at hc;exact absurd hc κ⟩,dF.out⟩
  ·obtain⟨pa,pc,rfl,nO⟩:=aY hr
   have nV:=zL.out;rw[Hq] at nV;simp only at nV;have aaY:=Hd nV;have HR:=Hd hr;have dF:=Hd q1;have HTH:=Hd Hq;clear nV hr q1 Hq zL;by_cases hlen:rest.length<at_.length
   ·have hh:(rest.length:Int)+1≤(at_.length:Int):=U
    have bI:eD (b::rest)=none:=by rw[aaY.out,Φ (.inl hlen)]
    have dY:=Hd bI;clear bI hlen;go_wp2_with fail;go_ret3;exact⟨⟨_,_,_,rfl,fun _=>Z,fun _ _ hc=>by rw[dY.out] at hc;exact absurd hc κ⟩,dF.out⟩
   ·have hh:¬(rest.length:Int)+1≤(at_.length:Int):=U
    have zI:∀k,k<at_.length→∃ga,pa=some ⟨ga,0,none⟩∧w1.cell? ⟨ga,k,none⟩=some (.int .i64 (at_.getD k 0:Nat)):=fun k hk=>by
     obtain⟨ga,rfl⟩:=nO U;exact⟨_,rfl,iy (Sl.cx HR.out) U k _ (QC at_ k hk)⟩
    have JA:∀k,k<at_.length→w1.cell? ⟨lb,1+k,none⟩=some (ah (rest.getD k []))∧(rest.getD k []).length=256:=fun k hk=>by
     have h1:=HC.out (k+1) U;rw[abM,abX] at h1;refine⟨aI dF.out h1,?_⟩;rw[LR,LN (by omega:k<rest.length)]
     exact HL.out _ (Mn _ (LO _))
    have jl:∀k,k<at_.length→(at_.zip rest).take (k+1)=(at_.zip rest).take k++[(at_.getD k 0,rest.getD k [])]∧(rest.take (k+1)).flatten=(rest.take k).flatten++rest.getD k []:=fun k hk=>by
     have h3:k<(at_.zip rest).length:=by rw[WP];omega
     have h4:k<rest.length:=U;constructor
     ·rw[Mb h3,List.getElem_zip,LR,LR,LN hk,LN h4]
      rfl
     ·rw[Mb h4,Tl,LR,LN h4]
      simp
    have kG:∀k,k≤at_.length→(rest.take k).flatten.length=256*k:=fun k hk=>by
     induction k with
     | zero=>rfl
     | succ k ih=>rw[(jl k U).2,Δ,ih U,(JA k U).2];omega
    have CG:=Hd zI;have VJ:=Hd JA;have HZS:=Hd jl;have xM:=Hd kG;clear zI JA jl kG;go_wp2_with fail;go_loopw [8,9,10] (fun tv ov i wr=>∃k:Nat,i=.int .i64 (k:Nat)∧k≤at_.length∧tv=ah (rest.take k).flatten∧Hid (wr.ownsRow w1.heap.size 134 2 ov k (aN ((at_.zip rest).take k)))∧Hid (Q w1 wr)) (fun _ _ i _=>at_.length-(intOf i).toNat)
    case atStart=>exact⟨0,rfl,L0 _,rfl,World.ownsRow_nil _ _ _ _,Hd (Q.refl _)⟩
    case round =>
     obtain⟨k,rfl,hk,rfl,HOW,bJ⟩:=hrel;have Pe:=xM.out k hk;by_cases ay:k<at_.length
     ·have bq:(k:Int)<(at_.length:Int):=U
      have Dw:1+(k:Int)<(rest.length:Int)+1:=U;have aeY:(0:Int)≤1+(k:Int):=U;have tX:(1+(k:Int)).toNat=1+k:=U;have Cz:IntKind.i64.wrap (1+(k:Int))=1+(k:Int):=IntWalk.i64_in _ U;obtain⟨ga,rfl,x1⟩:=CG.out k ay;obtain⟨x2,Yy⟩:=VJ.out k ay;have y1:=aI bJ.out x1;have y2:=aI bJ.out x2;have jl:=HZS.out k ay;have HZ:=Hd jl;clear jl x1 x2;generalize at_.getD k 0=bk at *;generalize rest.getD k []=dk at *;have Md:((dk.length:Int) != 256)=false:=by rw[bne,MY.2 U];rfl
      have Y7:((dk.length:Int)==256)=true:=MY.2 U;have hd4:dk.length≤1000:=U;have Ry:(rest.take k).flatten.length≤100000:=U;clear Yy Pe;generalize (rest.take k).flatten=fk at *;generalize (at_.zip rest).take k=zk at *;have HKB:=Hd (show k+1≤1000000000 by omega)
      go_wp2_with fail;go_region_law
       (first
        | (refine Kd w1 ρ _ _ ρ _ k zk ρ (ownsRow_below HOW.out (by first|exact Q.alloc _ _|exact Qs.dr (Q.alloc _ _)|exact Qs.al (Q.drew _) _)) (bJ.out.trans (by first|exact Q.alloc _ _|exact Qs.dr (Q.alloc _ _)|exact Qs.al (Q.drew _) _)) _ 1 [(bk,dk)] ρ (by first|exact pL wr bk dk|exact(pL wr bk dk).stays (Q.drew _)) HKB.out (J0 bk dk) ?_;intro v7 w7 h7 q7;have H7:=Hd h7;have Q7:=Hd q7;clear h7 q7))
      all_goals
       have h7:w7.ownsRow w1.heap.size 134 2 v7 (k+1) (aN ((at_.zip rest).take (k+1))):=by rw[HZ.out.1];exact H7.out
       have OW:=Hd h7;clear h7 Cz tX Dw aeY y1 y2;go_simp;go_wp2_with fail;go_roundw;case rel=>exact⟨k+1,by go_num,U,by rw[HZ.out.2];simp only[bytes_append],OW,Q7⟩
       case measure=>simp[intOf];omega
     ·have bq:¬(k:Int)<(at_.length:Int):=U
      obtain rfl:k=at_.length:=U;have y0:=aI (dF.out.trans bJ.out) x0;have nV:eD (b::rest)=if aB (fU (b.take 248++(rest.take at_.length).flatten))=(b.drop 248).take 4 then some (seq,at_.zip rest) else none:=by
       rw[aaY.out,η];rintro(hc|⟨q,hq,Du⟩)
       ·exact hlen hc
       ·exact Du (HL.out q (Mn _ (P3 hq)))
      have hzt:(at_.zip rest).take at_.length=at_.zip rest:=Mp (by rw[WP];omega)
      have xX:(at_.zip rest).length=at_.length:=by rw[WP];omega
      have dP:wr.ownsRow w.heap.size 134 2 u9 (at_.zip rest).length (aN (at_.zip rest)):=by
       have:=HOW.out;rw[hzt] at this;rw[xX];exact gT this dF.out.size
      have Ry:(rest.take at_.length).flatten.length≤100000:=U;have dZ:=HB.out;have bL:(b.take 248++(rest.take at_.length).flatten).length≤1000000:=by rw[Δ,L4];omega
      have kR:=CCC.out _ bL;have Tx:=yA (b.take 248++(rest.take at_.length).flatten);have FQ:=CF.out _ Tx;have sJ:({ data:=b.toArray }:ByteArray).extract 248 252=⟨((b.drop 248).take 4).toArray⟩:=eY b 248 252;have mh:({ data:=b.toArray }:ByteArray).extract 0 248=⟨(b.take 248).toArray⟩:=uD b 248;have hb1:(252:Int)≤(b.length:Int):=U;have bN:(248:Int)≤(b.length:Int):=U;have gI:(b.take 248).length≤1000:=by rw[L4];omega
      have aeZ:=Hd nV;have lu:=Hd dP;clear nV hzt xX dP Pe bL Tx dZ xM HZS VJ CG aaY HOW;generalize (rest.take at_.length).flatten=fk at *;generalize b.take 248=bt at *;generalize (b.drop 248).take 4=bm at *;generalize fU (bt++fk)=cr at *;generalize aB cr=fx at *;have CO:¬9223372036854775807<bt.length+fk.length:=U;have am3:¬(9223372036854775807:Int)<(bt.length:Int)+(fk.length:Int):=U;have Cv:=Hd kR;have Z8:=Hd FQ;have KK:=Hd (Q.refl wr);clear kR FQ;go_wp2_with fail;go_region_held3 (fun w'=>w'.cell? ⟨lb,0,none⟩=some (ah b))
       (first|exact y0|exact aI δ y0)
       (first
        | (go_at_call 116;rw[bytes_append];with_reducible refine(Cv.out _).mono ?_;rintro e w5 ⟨rfl,rfl⟩)
        | (go_at_call 115;with_reducible refine(Z8.out _).mono ?_;rintro e w6 ⟨rfl,q6⟩;have s':Q wr w6:=Q.trans ω q6;clear KK;have KK:=Hd s';clear s' q6))
      all_goals
       have yj:Q w w6:=dF.out.trans (bJ.out.trans KK.out);have Mx:=ownsRow_below lu.out KK.out;have lG:=Hd yj;have OV:=Hd Mx;clear yj Mx;by_cases hc:fx=bm
       ·have hu:=aeZ.out
        rw[Φ hc] at hu;have HU:=Hd hu;have aaZ:=Hd hc.symm;clear hu hc;go_wp2_with fail;all_goals first
         | (exfalso;rename_i hx;rw[MY.2 aaZ.out] at hx;exact absurd hx Z)
         | (go_ret3
            refine⟨⟨_,_,_,rfl,fun h=>by rw[HU.out] at h;exact absurd h κ,fun sq ws h=>?_⟩,lG.out⟩
            rw[HU.out] at h;simp only[M3,QR] at h;obtain⟨rfl,rfl⟩:=h;exact⟨rfl,rfl,OV.out⟩)
       ·have hu:=aeZ.out
        rw[η hc] at hu;have HU:=Hd hu;have aaZ:=Hd (Z3 hc);clear hu hc;go_wp2_with fail;all_goals first
         | (exfalso;rename_i hx;rw[SZ aaZ.out] at hx;exact absurd hx Z)
         | (go_ret3
            exact⟨⟨_,_,_,rfl,fun h=>Z,fun sq ws h=>by rw[HU.out] at h;exact absurd h κ⟩,lG.out⟩)
theorem oY(l m:List WrL)(w:WrL)(h:∀y∈l,y.1<w.1):bM (l++m) w=l++bM m w:=by
 induction l with
 | nil=>rfl
 | cons y l ih=>rw[Of,bM,Φ (h y (Mu ..)),ih (fun x hx=>h x (Mn _ hx))];rfl
theorem Gk(l m:List WrL)(w:WrL)(h:∃y∈l,w.1≤y.1):bM (l++m) w=bM l w++m:=by
 induction l with
 | nil=>obtain⟨y,hy,_⟩:=h;simp at hy
 | cons y l ih =>
  rw[Of,bM,bM];by_cases h1:y.1<w.1
  ·rw[Φ h1,Φ h1,ih]
   ·rfl
   ·obtain⟨x,hx,mh⟩:=h
    rcases MA.1 hx with rfl|hx
    ·omega
    ·exact⟨x,hx,mh⟩
  ·rw[η h1,η h1]
   by_cases h2:y.1=w.1
   ·rw[Φ h2,Φ h2];rfl
   ·rw[η h2,η h2];rfl
def oh(tx:List WrL)(w:WrL)(k:Nat):Bool×List WrL :=
 if ∃y∈tx.take k,w.1≤y.1 then(true,bM (tx.take k) w) else(false,tx.take k)
theorem X5(tx:List WrL)(w:WrL)(hr:l8 tx)(k:Nat)(hk:k<tx.length):
  oh tx w (k+1)=if (oh tx w k).1=true then(true,(oh tx w k).2++[tx[k]]) else
   if w.1≤tx[k].1 then(true,if tx[k].1=w.1 then(oh tx w k).2++[w] else(oh tx w k).2++[w]++[tx[k]]) else(false,(oh tx w k).2++[tx[k]]):=by
 have hs:tx.take (k+1)=tx.take k++[tx[k]]:=Mb hk;unfold oh;rw[hs];by_cases h:∃y∈tx.take k,w.1≤y.1
 ·rw[Φ h,Φ (by obtain⟨y,hy,h2⟩:=h;exact⟨y,My.2 (.inl hy),h2⟩),Φ rfl,Gk _ _ _ h]
 ·have e0:(if (∃y∈tx.take k,w.1≤y.1) then(true,bM (tx.take k) w) else(false,tx.take k))=(false,tx.take k):=η h
  rw[e0];simp only[M2,ON];have hl:∀y∈tx.take k,y.1<w.1:=fun y hy=>by
   rcases adq y.1 w.1 with h1|h1
   ·exact h1
   ·exact absurd ⟨y,hy,h1⟩ h
  by_cases h2:w.1≤tx[k].1
  ·rw[Φ ⟨tx[k],My.2 (.inr (Mo.2 rfl)),h2⟩,Φ h2,oY _ _ _ hl,bM,η U]
   by_cases h3:tx[k].1=w.1
   ·rw[Φ h3,Φ h3]
   ·rw[η h3,η h3];simp
  ·rw[η (by
    rintro⟨y,hy,h4⟩;rcases My.1 hy with hy|hy
    ·exact h ⟨y,hy,h4⟩
    ·rw[Mo.1 hy] at h4;exact h2 h4),η h2]
theorem tf(tx:List WrL)(w:WrL):bM tx w=if (oh tx w tx.length).1=true then(oh tx w tx.length).2 else(oh tx w tx.length).2++[w]:=by
 unfold oh;rw[M1];by_cases h:∃y∈tx,w.1≤y.1
 ·rw[Φ h,Φ rfl]
 ·rw[η h]
  simp only[M2,ON];have hl:∀y∈tx,y.1<w.1:=fun y hy=>by
   rcases adq y.1 w.1 with h1|h1
   ·exact h1
   ·exact absurd ⟨y,hy,h1⟩ h
  have:=oY tx [] w hl;rw[NF] at this;exact this
theorem zd(tx:List WrL)(w:WrL)(hr:l8 tx)(k:Nat)(hk:k<tx.length)(h:(oh tx w k).1=true):tx[k].1≠w.1∧¬tx[k].1<w.1:=by
 unfold oh at h;split at h
 ·rename_i h1
  obtain⟨y,hy,h2⟩:=h1;obtain⟨j,hj,rfl⟩:=PH hy;rw[L4] at hj;have:=SD.1 hr j k U hk U;rw[abt] at h2;omega
 ·simp at h
theorem ut(tx:List WrL)(w:WrL)(k:Nat):(oh tx w k).2.length≤k+1:=by
 unfold oh;split
 ·have:∀l:List WrL,(bM l w).length≤l.length+1:=fun l=>by
   induction l with
   | nil=>exact Ω _
   | cons y l ih =>
    rw[bM];split
    ·simp only[Θ];omega
    ·split<;>simp only[Θ]<;>omega
  have h1:=this (tx.take k);rw[L4] at h1;show(bM (tx.take k) w).length≤k+1;omega
 ·show(tx.take k).length≤k+1
  rw[L4];omega
theorem Sl.mN{w:World}{v:Value}{tx:List WrL}(h:Sl w v tx.length 2 (aN tx)):∃a cap,v=.slice a tx.length cap∧∀k (hk:k<tx.length),∃g off,a=some ⟨g,off,none⟩∧w.cell? ⟨g,off+k*2,none⟩=some (.int .i64 (tx[k].1:Nat))∧w.cell? ⟨g,off+k*2+1,none⟩=some (ah tx[k].2):=by
 obtain⟨a,cap,rfl,hc⟩:=h.value;refine⟨a,cap,rfl,fun k hk=>?_⟩
 obtain⟨g,off,rfl,aP⟩:=hc U;have h1:=fQ tx k hk;exact⟨g,off,rfl,aP _ _ h1.1,by rw[Ps];exact aP _ _ h1.2⟩
theorem wE(l:List WrL)(x:Nat)(s:Bytes):aN l++(#[Value.int .i64 (x:Nat),ah s]:Array Value).toList=aN (l++[(x,s)]):=by
 rw[iF];rfl
theorem Ol(w:World)(tv:Value)(tx:List WrL)(i:Nat)(s:Bytes)(h:Sl w tv tx.length 2 (aN tx))(hr:l8 tx)(hl:tx.length≤1000)(qL:i≤1000000):
  Calls prog 182 #[tv,.agg #[.int .i64 (i:Nat),ah s]] w fun e w'=>∃v,e=.returned v∧w'.ownsRow w.heap.size 134 2 v (bM tx (i,s)).length (aN (bM tx (i,s)))∧Q w w':=by
 obtain⟨i0,hi,bY,bB,aW⟩:=info_parts nC;obtain⟨wa,dO⟩:∃wa,wa=w.alloc (.cells #[.int .i64 (i:Nat),ah s] 134):=⟨_,rfl⟩;have qa:Q w wa:=by rw[dO];exact Q.alloc _ _
 have bZ:Blk wa w.heap.size 134 #[.int .i64 (i:Nat),ah s]:=by rw[dO];exact Blk.new w _ _
 have b0:=bZ.cell 0 _ rfl;have b1:=bZ.cell 1 _ rfl;obtain⟨ta,tc,rfl,aP⟩:=(h.stays qa).mN;have kU:=fun (k:Nat) (hk:k<tx.length)=>X5 tx (i,s) hr k hk
 have aU:=fun (k:Nat) (hk:k<tx.length)=>zd tx (i,s) hr k hk
 have hlen:=ut tx (i,s);have hend:=tf tx (i,s);have h00:oh tx (i,s) 0=(false,[]):=by unfold oh;rw[R0,η κ]
 have HS:=Hd kU;have HN:=Hd aU;have HL:=Hd hlen;have HE:=Hd hend;have HC:=Hd aP;have QA:=Hd qa;have H00:=Hd h00;have B0:=Hd b0;have B1:=Hd b1;clear kU aU hlen hend aP qa h00 h hr bZ b0 b1;simp only at HS HN;generalize iQ:bM tx (i,s)=res at *;clear iQ;generalize Cz:oh tx (i,s)=wk at *;clear Cz;have yJ:∀(x:Nat) (y:Bytes),∀u∈(#[Value.int .i64 (x:Nat),ah y]:Array Value).toList,u.oneCell'=true:=fun x y u hu=>by simp at hu;rcases hu with rfl|rfl<;>rfl
 have Wm:=Hd yJ;clear yJ;go_enter func182,ntmps182;go_wp2_with fail;rw[←dO];clear dO;go_loopw [5,6,7] (fun ov dv iv wr=>∃k:Nat,iv=.int .i64 (k:Nat)∧k≤tx.length∧dv=.bool (wk k).1∧Hid (wr.ownsRow wa.heap.size 134 2 ov (wk k).2.length (aN (wk k).2))∧Hid (Q wa wr)) (fun _ _ iv _=>tx.length-(intOf iv).toNat)
 case atStart=>exact⟨0,rfl,L0 _,by rw[H00.out],by rw[H00.out];exact Hd (World.ownsRow_nil _ _ _ _),Hd (Q.refl _)⟩
 case round =>
  obtain⟨k,rfl,hk,rfl,HO,HQ⟩:=hrel;have qz:=HL.out k;have z0:=aI HQ.out B0.out;have z1:=aI HQ.out B1.out;by_cases ay:k<tx.length
  ·have bq:(k:Int)<(tx.length:Int):=U
   have lT:(0:Int)≤(k:Int):=U;obtain⟨g,off,rfl,x0,x1⟩:=HC.out k ay;have y0:=aI HQ.out x0;have y1:=aI HQ.out x1;have aC:=HS.out k ay;have Jv:=HN.out k ay;have aX:=Hd aC;have TV:=Hd Jv;have HX0:=Hd x0;have HX1:=Hd x1;clear aC Jv x0 x1 HS HN;generalize tx[k]=tk at *;obtain⟨xi,xs⟩:=tk;simp only at y0 y1 aX TV HX0 HX1;generalize wk k=wkk at *;obtain⟨dn,ol⟩:=wkk;simp only at HO aX TV qz;have Bf:xi≤1000000∨1000000<xi:=U;cases dn with
   | true =>
    obtain⟨aU,wI⟩:=TV.out rfl;have M8:((xi:Int)==(i:Int))=false:=Γ.2 U;have aC:=aX.out;rw[Φ rfl] at aC;have qD:=Hd aC;have M8:((xi:Int) != (i:Int))=true:=by rw[bne,Γ.2 U];rfl
    have M8:((xi:Int) != (i:Int))=true:=by rw[bne,Γ.2 U];rfl
    have M8:((xi:Int) != (i:Int))=true:=by rw[bne,Γ.2 U];rfl
    clear aC aX TV aU wI;go_wp2_with fail;go_quiet (fail);obtain⟨n1,rfl⟩:∃n1,n1=nq:=⟨_,rfl⟩;go_wp2_with fail;go_quiet (fail);obtain⟨n2,rfl⟩:∃n2,n2=nq:=⟨_,rfl⟩;have hq:=HQ.out.trans (Q.drewN wr (n1+n2));have aF:=ownsRow_below HO.out (Q.drewN wr (n1+n2));go_wp2_with (at_builtin;go_must (refine bG _ ρ _ _ 102 ρ wa.heap.size 134 _ i0 (.agg #[.int .i64 0,ah []]) 2 24 underlying102 hi bY bB aW rfl Z Z _ _ _ ρ aF #[.int .i64 (xi:Nat),ah xs] ρ rfl (Wm.out _ _) (by first|omega|(simp only[Δ,Θ,Nm];omega)) hq.size ?_))
    intro g7 cap7 w7 nZ uh Eh vP uL;have q7:Q wa w7:=bD hq aF uh (Ω _) hq.size;rw[wE] at nZ;clear aF uh Eh vP uL;have CZ:=Hd nZ;have lJ:=Hd q7;clear nZ q7 HO HQ;go_wp2_with fail;go_roundw;case rel=>exact⟨k+1,by go_num,U,by rw[qD.out],by rw[qD.out];simp only[Δ,Θ,Nm,On];exact CZ,lJ⟩
    case measure=>simp[intOf];omega
   | false =>
    have aC:=aX.out;rw[η Z] at aC;by_cases hge:i≤xi
    ·have Y4:(i:Int)≤(xi:Int):=U
     rw[Φ hge] at aC;by_cases jT:xi=i
     ·rw[Φ jT] at aC
      have M8:((xi:Int) != (i:Int))=false:=by rw[bne,MY.2 U];rfl
      have qD:=Hd aC;clear aC aX TV jT hge;go_wp2_with fail;go_quiet (fail);obtain⟨n1,rfl⟩:∃n1,n1=nq:=⟨_,rfl⟩;have hq:=HQ.out.trans (Q.drewN wr n1);have aF:=ownsRow_below HO.out (Q.drewN wr n1);go_wp2_with (at_builtin;go_must (refine bG _ ρ _ _ 102 ρ wa.heap.size 134 _ i0 (.agg #[.int .i64 0,ah []]) 2 24 underlying102 hi bY bB aW rfl Z Z _ _ _ ρ aF #[.int .i64 (i:Nat),ah s] ρ rfl (Wm.out _ _) (by first|omega|(simp only[Δ,Θ,Nm];omega)) hq.size ?_))
      intro g7 cap7 w7 nZ uh Eh vP uL;have q7:Q wa w7:=bD hq aF uh (Ω _) hq.size;rw[wE] at nZ;clear aF uh Eh vP uL;have CZ:=Hd nZ;have lJ:=Hd q7;have z0:=aI lJ.out B0.out;have y0:=aI lJ.out HX0.out;clear nZ q7 HO HQ;go_wp2_with fail;go_quiet (fail);go_wp2_with fail;go_roundw;case rel=>exact⟨k+1,by go_num,U,by rw[qD.out],by rw[qD.out];simp only[Δ,Θ,Nm,On];exact Hd (ownsRow_below CZ.out (Q.drewN _ _)),Hd (lJ.out.trans (Q.drewN _ _))⟩
      case measure=>simp[intOf];omega
     ·rw[η jT] at aC
      have M8:((xi:Int) != (i:Int))=true:=by rw[bne,Γ.2 U];rfl
      have qD:=Hd aC;clear aC aX TV jT hge;go_wp2_with fail;go_quiet (fail);obtain⟨n1,rfl⟩:∃n1,n1=nq:=⟨_,rfl⟩;have hq:=HQ.out.trans (Q.drewN wr n1);have aF:=ownsRow_below HO.out (Q.drewN wr n1);go_wp2_with (at_builtin;go_must (refine bG _ ρ _ _ 102 ρ wa.heap.size 134 _ i0 (.agg #[.int .i64 0,ah []]) 2 24 underlying102 hi bY bB aW rfl Z Z _ _ _ ρ aF #[.int .i64 (i:Nat),ah s] ρ rfl (Wm.out _ _) (by first|omega|(simp only[Δ,Θ,Nm];omega)) hq.size ?_))
      intro g7 cap7 w7 nZ uh Eh vP uL;have q7:Q wa w7:=bD hq aF uh (Ω _) hq.size;rw[wE] at nZ;clear aF uh Eh vP uL;have CZ:=Hd nZ;have lJ:=Hd q7;have z0:=aI lJ.out B0.out;have y0:=aI lJ.out HX0.out;have y1:=aI lJ.out HX1.out;clear nZ q7 HO HQ;go_wp2_with fail;go_quiet (fail);have hq:=lJ.out.trans (Q.drewN w7 nq);have aF:=ownsRow_below CZ.out (Q.drewN w7 nq);go_wp2_with (at_builtin;go_must (refine bG _ ρ _ _ 102 ρ wa.heap.size 134 _ i0 (.agg #[.int .i64 0,ah []]) 2 24 underlying102 hi bY bB aW rfl Z Z _ _ _ ρ aF #[.int .i64 (xi:Nat),ah xs] ρ rfl (Wm.out _ _) (by first|omega|(simp only[Δ,Θ,Nm];omega)) hq.size ?_))
      intro g9 cap9 w9 hr9 ZO V6 ajb afM;have q9:Q wa w9:=bD hq aF ZO (Ω _) hq.size;rw[wE] at hr9;clear aF ZO V6 ajb afM;have HO9:=Hd hr9;have HQ9:=Hd q9;clear hr9 q9 CZ lJ;go_wp2_with fail;go_roundw;case rel=>exact⟨k+1,by go_num,U,by rw[qD.out],by rw[qD.out];simp only[Δ,Θ,Nm,On];exact HO9,HQ9⟩
      case measure=>simp[intOf];omega
    ·have Y4:¬(i:Int)≤(xi:Int):=U
     rw[η hge] at aC;have M8:((xi:Int) != (i:Int))=true:=by rw[bne,Γ.2 U];rfl
     have qD:=Hd aC;clear aC aX TV hge;go_wp2_with fail;go_quiet (fail);obtain⟨n1,rfl⟩:∃n1,n1=nq:=⟨_,rfl⟩;go_wp2_with fail;go_quiet (fail);obtain⟨n2,rfl⟩:∃n2,n2=nq:=⟨_,rfl⟩;have hq:=HQ.out.trans (Q.drewN wr (n1+n2));have aF:=ownsRow_below HO.out (Q.drewN wr (n1+n2));go_wp2_with (at_builtin;go_must (refine bG _ ρ _ _ 102 ρ wa.heap.size 134 _ i0 (.agg #[.int .i64 0,ah []]) 2 24 underlying102 hi bY bB aW rfl Z Z _ _ _ ρ aF #[.int .i64 (xi:Nat),ah xs] ρ rfl (Wm.out _ _) (by first|omega|(simp only[Δ,Θ,Nm];omega)) hq.size ?_))
     intro g7 cap7 w7 nZ uh Eh vP uL;have q7:Q wa w7:=bD hq aF uh (Ω _) hq.size;rw[wE] at nZ;clear aF uh Eh vP uL;have CZ:=Hd nZ;have lJ:=Hd q7;clear nZ q7 HO HQ;go_wp2_with fail;go_roundw;case rel=>exact⟨k+1,by go_num,U,by rw[qD.out],by rw[qD.out];simp only[Δ,Θ,Nm,On];exact CZ,lJ⟩
     case measure=>simp[intOf];omega
  ·have bq:¬(k:Int)<(tx.length:Int):=U
   obtain rfl:k=tx.length:=U;have hend:=HE.out;generalize wk tx.length=wkk at *;obtain⟨dn,ol⟩:=wkk;simp only at HO hend qz;cases dn with
   | true =>
    rw[Φ rfl] at hend;have tV:=Hd hend;clear hend HE;go_wp2_with fail;go_ret;exact⟨_,rfl,by rw[tV.out];exact gT HO.out QA.out.size,QA.out.trans HQ.out⟩
   | false =>
    rw[η Z] at hend;have tV:=Hd hend;clear hend HE;have hq:=HQ.out;have aF:=HO.out;go_wp2_with (at_builtin;go_must (refine bG _ ρ _ _ 102 ρ wa.heap.size 134 _ i0 (.agg #[.int .i64 0,ah []]) 2 24 underlying102 hi bY bB aW rfl Z Z _ _ _ ρ aF #[.int .i64 (i:Nat),ah s] ρ rfl (Wm.out _ _) (by first|omega|(simp only[Δ,Θ,Nm];omega)) hq.size ?_))
    intro g7 cap7 w7 nZ uh Eh vP uL;have q7:Q wa w7:=bD hq aF uh (Ω _) hq.size;rw[wE] at nZ;clear aF uh Eh vP uL;have CZ:=Hd nZ;have lJ:=Hd q7;clear nZ q7 HO HQ;go_wp2_with fail;go_ret;exact⟨_,rfl,by rw[tV.out];simp only[Δ,Θ,Nm,On];exact gT CZ.out QA.out.size,QA.out.trans lJ.out⟩
theorem Qs.le{A B:World}(h:Q A B):A.heap.size≤B.heap.size:=Below.size h
theorem X6(t:Bytes)(n:Nat)(ht:t.length=256)(hn:n≤4096)(w:World):
  Calls prog 174 #[ah t,.int .i64 (n:Nat)] w fun e w'=>(∃s0:bu,e=.returned (.tuple #[.agg #[.int .u64 (s0.e:Nat),.int .u64 (s0.s:Nat),.int .i64 (s0.log:Nat),.int .i64 (s0.place:Nat)],.bool (aR t n).isSome])∧∀s,aR t n=some s→s=s0)∧Q w w':=by
 have c1:=fun (W:World)=>l9 (t.drop 20) W (by rw[L5];omega) (by rw[L5];omega)
 have c2:=fun (W:World)=>l9 (t.drop 24) W (by rw[L5];omega) (by rw[L5];omega)
 have c3:=fun (W:World)=>Oh (t.drop 4) W (by rw[L5];omega) (by rw[L5];omega)
 have c4:=fun (W:World)=>Oh (t.drop 12) W (by rw[L5];omega) (by rw[L5];omega)
 have d1:({ data:=t.toArray }:ByteArray).extract 20 t.length=⟨(t.drop 20).toArray⟩:=fI t 20;have d2:({ data:=t.toArray }:ByteArray).extract 24 t.length=⟨(t.drop 24).toArray⟩:=fI t 24;have d3:({ data:=t.toArray }:ByteArray).extract 4 t.length=⟨(t.drop 4).toArray⟩:=fI t 4;have d4:({ data:=t.toArray }:ByteArray).extract 12 t.length=⟨(t.drop 12).toArray⟩:=fI t 12;have i4:(4:Int)≤(t.length:Int):=U;have i12:(12:Int)≤(t.length:Int):=U;have i20:(20:Int)≤(t.length:Int):=U;have i24:(24:Int)≤(t.length:Int):=U;have l1:=eU (t.drop 20);have l2:=eU (t.drop 24);have bX:gP t=⟨Cj (t.drop 4),Cj (t.drop 12),aM (t.drop 20),aM (t.drop 24)⟩:=by
  unfold gP Cj;simp only[N6]
 have mR:aR t n=if 50≤(gP t).log∧(gP t).log+3≤n∧(gP t).place<(gP t).log∧aQ (gP t)=t then some (gP t) else none:=rfl
 have ig:=FU t;rw[bX] at mR ig;simp only at mR;have zu:IntKind.i64.wrap ((n:Int)-3)=(n:Int)-3:=IntWalk.i64_in _ U;generalize Cj (t.drop 4)=ee at *;generalize Cj (t.drop 12)=ss at *;generalize aM (t.drop 20)=u4 at *;generalize aM (t.drop 24)=u5 at *;generalize (t.drop 20).drop 4=r4 at *;generalize (t.drop 24).drop 4=r5 at *;have C1:=Hd c1;have C2:=Hd c2;have C3:=Hd c3;have C4:=Hd c4;have wL:=Hd mR;have Bo:=Hd ig;clear c1 c2 c3 c4 mR ig bX ht;by_cases yx:u4<50
 ·have e1:(u4:Int)<50:=U
  have bI:aR t n=none:=by rw[wL.out,η (fun h=>by have:=h.1;omega)]
  have dY:=Hd bI;clear bI;go_enter func174,ntmps174;go_upto_region 1 with fail;have eH:=Blk.new w 172 #[.int .u64 0,.int .u64 0,.int .i64 0,.int .i64 0];have ji:=Q.alloc w (.cells #[.int .u64 0,.int .u64 0,.int .i64 0,.int .i64 0] 172);generalize w.alloc (.cells #[.int .u64 0,.int .u64 0,.int .i64 0,.int .i64 0] 172)=w1 at *;have wG:=Hd eH;have mF:=Hd ji;clear eH ji;go_wp2_with fail;refine(C1.out _).mono ?_;rintro e w2 ⟨rfl,q2⟩;go_wp2_with fail;refine(C2.out _).mono ?_;rintro e w3 ⟨rfl,q3⟩;have gI:=wG.out.stays (q2.trans q3);obtain⟨c0,c1,c2,c3,f0,f1,f2,f3⟩:=gI.c4;have qI:=Hd gI;have fu:=Hd (mF.out.trans (q2.trans q3));clear gI q2 q3;go_wp2_with fail;refine bodyPost_ret (kQ rfl _ _ w.heap.size 172 _ (0,0) _ rfl (yE qI.out (.int .u64 ((0:Nat):Int)) (.int .u64 ((0:Nat):Int)) (.int .i64 ((0:Nat):Int)) (.int .i64 ((0:Nat):Int))) underlying172 rfl (by kernel_rfl)) rfl ?_
  refine⟨⟨⟨0,0,0,0⟩,?_,fun s hs=>?_⟩,?_⟩
  ·rw[dY.out];rfl
  ·rw[dY.out] at hs;exact absurd hs κ
  ·exact Qs.st (Qs.st (Qs.st (Qs.st fu.out _ _ (Ω _)) _ _ (Ω _)) _ _ (Ω _)) _ _ (Ω _)
 have e1:¬(u4:Int)<50:=U;by_cases h41:4096<u4
 ·have e2:(4096:Int)<(u4:Int):=U
  have bI:aR t n=none:=by rw[wL.out,η (fun h=>by have:=h.2.1;omega)]
  have dY:=Hd bI;clear bI;go_enter func174,ntmps174;go_upto_region 1 with fail;have eH:=Blk.new w 172 #[.int .u64 0,.int .u64 0,.int .i64 0,.int .i64 0];have ji:=Q.alloc w (.cells #[.int .u64 0,.int .u64 0,.int .i64 0,.int .i64 0] 172);generalize w.alloc (.cells #[.int .u64 0,.int .u64 0,.int .i64 0,.int .i64 0] 172)=w1 at *;have wG:=Hd eH;have mF:=Hd ji;clear eH ji;go_wp2_with fail;refine(C1.out _).mono ?_;rintro e w2 ⟨rfl,q2⟩;go_wp2_with fail;refine(C2.out _).mono ?_;rintro e w3 ⟨rfl,q3⟩;have gI:=wG.out.stays (q2.trans q3);obtain⟨c0,c1,c2,c3,f0,f1,f2,f3⟩:=gI.c4;have qI:=Hd gI;have fu:=Hd (mF.out.trans (q2.trans q3));clear gI q2 q3;go_wp2_with fail;refine bodyPost_ret (kQ rfl _ _ w.heap.size 172 _ (0,0) _ rfl (yE qI.out (.int .u64 ((0:Nat):Int)) (.int .u64 ((0:Nat):Int)) (.int .i64 ((0:Nat):Int)) (.int .i64 ((0:Nat):Int))) underlying172 rfl (by kernel_rfl)) rfl ?_
  refine⟨⟨⟨0,0,0,0⟩,?_,fun s hs=>?_⟩,?_⟩
  ·rw[dY.out];rfl
  ·rw[dY.out] at hs;exact absurd hs κ
  ·exact Qs.st (Qs.st (Qs.st (Qs.st fu.out _ _ (Ω _)) _ _ (Ω _)) _ _ (Ω _)) _ _ (Ω _)
 have e2:¬(4096:Int)<(u4:Int):=U;by_cases fT:u4+3≤n;case neg =>
  have e3:(n:Int)-3<(u4:Int):=U;have bI:aR t n=none:=by rw[wL.out,η (fun h=>fT h.2.1)]
  have dY:=Hd bI;clear bI;go_enter func174,ntmps174;go_upto_region 1 with fail;have eH:=Blk.new w 172 #[.int .u64 0,.int .u64 0,.int .i64 0,.int .i64 0];have ji:=Q.alloc w (.cells #[.int .u64 0,.int .u64 0,.int .i64 0,.int .i64 0] 172);generalize w.alloc (.cells #[.int .u64 0,.int .u64 0,.int .i64 0,.int .i64 0] 172)=w1 at *;have wG:=Hd eH;have mF:=Hd ji;clear eH ji;go_wp2_with fail;refine(C1.out _).mono ?_;rintro e w2 ⟨rfl,q2⟩;go_wp2_with fail;refine(C2.out _).mono ?_;rintro e w3 ⟨rfl,q3⟩;have gI:=wG.out.stays (q2.trans q3);obtain⟨c0,c1,c2,c3,f0,f1,f2,f3⟩:=gI.c4;have qI:=Hd gI;have fu:=Hd (mF.out.trans (q2.trans q3));clear gI q2 q3;go_wp2_with fail;refine bodyPost_ret (kQ rfl _ _ w.heap.size 172 _ (0,0) _ rfl (yE qI.out (.int .u64 ((0:Nat):Int)) (.int .u64 ((0:Nat):Int)) (.int .i64 ((0:Nat):Int)) (.int .i64 ((0:Nat):Int))) underlying172 rfl (by kernel_rfl)) rfl ?_
  refine⟨⟨⟨0,0,0,0⟩,?_,fun s hs=>?_⟩,?_⟩
  ·rw[dY.out];rfl
  ·rw[dY.out] at hs;exact absurd hs κ
  ·exact Qs.st (Qs.st (Qs.st (Qs.st fu.out _ _ (Ω _)) _ _ (Ω _)) _ _ (Ω _)) _ _ (Ω _)
 have e3:¬(n:Int)-3<(u4:Int):=U;by_cases bW:u5<u4;case neg =>
  have e4:(u4:Int)≤(u5:Int):=U;have bI:aR t n=none:=by rw[wL.out,η (fun h=>bW h.2.2.1)]
  have dY:=Hd bI;clear bI;go_enter func174,ntmps174;go_upto_region 1 with fail;have eH:=Blk.new w 172 #[.int .u64 0,.int .u64 0,.int .i64 0,.int .i64 0];have ji:=Q.alloc w (.cells #[.int .u64 0,.int .u64 0,.int .i64 0,.int .i64 0] 172);generalize w.alloc (.cells #[.int .u64 0,.int .u64 0,.int .i64 0,.int .i64 0] 172)=w1 at *;have wG:=Hd eH;have mF:=Hd ji;clear eH ji;go_wp2_with fail;refine(C1.out _).mono ?_;rintro e w2 ⟨rfl,q2⟩;go_wp2_with fail;refine(C2.out _).mono ?_;rintro e w3 ⟨rfl,q3⟩;have gI:=wG.out.stays (q2.trans q3);obtain⟨c0,c1,c2,c3,f0,f1,f2,f3⟩:=gI.c4;have qI:=Hd gI;have fu:=Hd (mF.out.trans (q2.trans q3));clear gI q2 q3;go_wp2_with fail;refine bodyPost_ret (kQ rfl _ _ w.heap.size 172 _ (0,0) _ rfl (yE qI.out (.int .u64 ((0:Nat):Int)) (.int .u64 ((0:Nat):Int)) (.int .i64 ((0:Nat):Int)) (.int .i64 ((0:Nat):Int))) underlying172 rfl (by kernel_rfl)) rfl ?_
  refine⟨⟨⟨0,0,0,0⟩,?_,fun s hs=>?_⟩,?_⟩
  ·rw[dY.out];rfl
  ·rw[dY.out] at hs;exact absurd hs κ
  ·exact Qs.st (Qs.st (Qs.st (Qs.st fu.out _ _ (Ω _)) _ _ (Ω _)) _ _ (Ω _)) _ _ (Ω _)
 have e4:¬(u4:Int)≤(u5:Int):=U;have cst:=fun (W:World)=>EM ⟨ee,ss,u4,u5⟩ Bo.out W
 have iQ:(aR t n).isSome=(aQ ⟨ee,ss,u4,u5⟩==t)∧∀s,aR t n=some s→s=⟨ee,ss,u4,u5⟩:=by
  rw[wL.out];by_cases jT:aQ ⟨ee,ss,u4,u5⟩=t
  ·rw[Φ ⟨U,fT,bW,jT⟩,MY.2 jT]
   exact⟨rfl,fun s hs=>(acG hs).symm⟩
  ·rw[η (fun h=>jT h.2.2.2),Γ.2 jT]
   exact⟨rfl,fun s hs=>absurd hs κ⟩
 have Sg:=Hd cst;have vR:=Hd iQ;clear cst iQ;generalize aQ ⟨ee,ss,u4,u5⟩=st at *;go_enter func174,ntmps174;go_upto_region 1 with fail;have eH:=Blk.new w 172 #[.int .u64 0,.int .u64 0,.int .i64 0,.int .i64 0];have ji:=Q.alloc w (.cells #[.int .u64 0,.int .u64 0,.int .i64 0,.int .i64 0] 172);generalize w.alloc (.cells #[.int .u64 0,.int .u64 0,.int .i64 0,.int .i64 0] 172)=w1 at *;have wG:=Hd eH;have mF:=Hd ji;clear eH ji;go_wp2_with fail;refine(C1.out _).mono ?_;rintro e w2 ⟨rfl,q2⟩;go_wp2_with fail;refine(C2.out _).mono ?_;rintro e w3 ⟨rfl,q3⟩;have gI:=wG.out.stays (q2.trans q3);have YT:Q w1 w3:=q2.trans q3;have qI:=Hd gI;have fu:=Hd (mF.out.trans (q2.trans q3));clear gI q2 q3;go_wp2_with fail;have am4:=Hd (show Q w1 w3 from YT)
 have oV:w1.heap.size≤w3.heap.size:=Below.size YT;clear YT;have KQ:=Hd (Q.refl w3);go_region_law
  (first
   | (go_simp;go_at_call 243;with_reducible refine(C3.out _).mono ?_;rintro e w4 ⟨rfl,q4⟩;(first|(have zb:=Blk.stays (Blk.new w3 172 #[.int .u64 0,.int .u64 0,.int .i64 0,.int .i64 0]) (Q.trans (Q.drew _) q4);have ZB:=Hd zb;clear zb)|skip);have s':Q w3 w4:=Q.trans ε q4;have kZ:=Qs.le s';clear KQ;have KQ:=Hd s';clear s' q4)
   | (go_simp;go_at_call 243;with_reducible refine(C4.out _).mono ?_;rintro e w5 ⟨rfl,q5⟩;(first|(have zb:=Blk.stays (Blk.new w4 172 #[.int .u64 0,.int .u64 0,.int .i64 0,.int .i64 0]) q5;obtain⟨z0,z1,z2,z3,y0,y1,y2,y3⟩:=zb.c4;have ZC5:=Hd zb;clear zb)|(have zb:=Blk.stays ZB.out q5;obtain⟨z0,z1,z2,z3,y0,y1,y2,y3⟩:=zb.c4;have ZB5:=Hd zb;clear zb)|skip);have s':Q w3 w5:=Q.trans ε q5;have zZ:=Qs.le s';clear KQ;have KQ:=Hd s';clear s' q5))
 all_goals
  have D9:IntKind.i64.wrap ((u4:Nat):Int)=(u4:Nat):=IntWalk.i64_in _ U;have L9:IntKind.i64.wrap ((u5:Nat):Int)=(u5:Nat):=IntWalk.i64_in _ U;simp only[D9,L9];clear D9 L9;first
   | (have rE:=yE ZC5.out (.int .u64 (ee:Nat)) (.int .u64 (ss:Nat)) (.int .i64 (u4:Nat)) (.int .i64 (u5:Nat))
      have Ih:Q w3 ((((w5.setCell ⟨w4.heap.size,0,none⟩ (.int .u64 (ee:Nat))).setCell ⟨w4.heap.size,1,none⟩ (.int .u64 (ss:Nat))).setCell ⟨w4.heap.size,2,none⟩ (.int .i64 (u4:Nat))).setCell ⟨w4.heap.size,3,none⟩ (.int .i64 (u5:Nat))):=Qs.st (Qs.st (Qs.st (Qs.st KQ.out _ _ kZ) _ _ kZ) _ _ kZ) _ _ kZ;generalize hWz:(((w5.setCell ⟨w4.heap.size,0,none⟩ (.int .u64 (ee:Nat))).setCell ⟨w4.heap.size,1,none⟩ (.int .u64 (ss:Nat))).setCell ⟨w4.heap.size,2,none⟩ (.int .i64 (u4:Nat))).setCell ⟨w4.heap.size,3,none⟩ (.int .i64 (u5:Nat))=wz at rE Ih ⊢;clear hWz;have HBZ:=Hd rE;have HQZ:=Hd Ih;clear rE Ih)
   | (have rE:=yE ZB5.out (.int .u64 (ee:Nat)) (.int .u64 (ss:Nat)) (.int .i64 (u4:Nat)) (.int .i64 (u5:Nat))
      have Ih:Q w3 ((((w5.setCell ⟨w3.heap.size,0,none⟩ (.int .u64 (ee:Nat))).setCell ⟨w3.heap.size,1,none⟩ (.int .u64 (ss:Nat))).setCell ⟨w3.heap.size,2,none⟩ (.int .i64 (u4:Nat))).setCell ⟨w3.heap.size,3,none⟩ (.int .i64 (u5:Nat))):=Qs.st (Qs.st (Qs.st (Qs.st KQ.out _ _ (Ω _)) _ _ (Ω _)) _ _ (Ω _)) _ _ (Ω _);generalize hWz:(((w5.setCell ⟨w3.heap.size,0,none⟩ (.int .u64 (ee:Nat))).setCell ⟨w3.heap.size,1,none⟩ (.int .u64 (ss:Nat))).setCell ⟨w3.heap.size,2,none⟩ (.int .i64 (u4:Nat))).setCell ⟨w3.heap.size,3,none⟩ (.int .i64 (u5:Nat))=wz at rE Ih ⊢;clear hWz;have HBZ:=Hd rE;have HQZ:=Hd Ih;clear rE Ih)
   | (have rE:=Blk.new w5 172 #[.int .u64 (ee:Nat),.int .u64 (ss:Nat),.int .i64 (u4:Nat),.int .i64 (u5:Nat)]
      have Ih:Q w3 (w5.alloc (.cells #[.int .u64 (ee:Nat),.int .u64 (ss:Nat),.int .i64 (u4:Nat),.int .i64 (u5:Nat)] 172)):=KQ.out.trans (Q.alloc _ _);generalize hWz:w5.alloc (.cells #[.int .u64 (ee:Nat),.int .u64 (ss:Nat),.int .i64 (u4:Nat),.int .i64 (u5:Nat)] 172)=wz at rE Ih ⊢;clear hWz;have HBZ:=Hd rE;have HQZ:=Hd Ih;clear rE Ih)
  obtain⟨s0,s1,s2,s3,_⟩:=HBZ.out.c4;have bZ:=qI.out.stays HQZ.out;obtain⟨b0,b1,b2,b3,f0,f1,f2,f3⟩:=bZ.c4;have ou:=Hd bZ;clear bZ;go_wp2_with fail;go_region_law
   (first
    | (go_simp;go_at_call 171;with_reducible refine(Sg.out _).mono ?_;rintro e w6 ⟨rfl,q6⟩;have s':Q wz w6:=(by first|exact(Q.drew _).trans q6|exact q6);have g0:=aI s' s0;have g1:=aI s' s1;have g2:=aI s' s2;have g3:=aI s' s3;have tQ:=Blk.stays ou.out s';obtain⟨a0,a1,a2,a3,d0,d1,d2,d3⟩:=tQ.c4;have S':=Hd s';have RY:=Hd tQ;clear s' q6 tQ))
  all_goals
   go_wp2_with fail
   (try simp only[Exit.inBlock,Exit.then])
   first
    | refine bodyPost_ret (kQ rfl _ _ w.heap.size 172 _ (0,0) _ rfl (yE RY.out (.int .u64 (ee:Nat)) (.int .u64 (ss:Nat)) (.int .i64 (u4:Nat)) (.int .i64 (u5:Nat))) underlying172 rfl (by kernel_rfl)) rfl ?_
    | refine bodyPost_ret (kQ rfl _ _ w.heap.size 172 _ (0,0) _ rfl (yE (RY.out.stays (Q.drew _)) (.int .u64 (ee:Nat)) (.int .u64 (ss:Nat)) (.int .i64 (u4:Nat)) (.int .i64 (u5:Nat))) underlying172 rfl (by kernel_rfl)) rfl ?_
   refine⟨⟨⟨ee,ss,u4,u5⟩,?_,fun s hs=>?_⟩,?_⟩
   ·rw[vR.out.1];rfl
   ·exact vR.out.2 s hs
   ·first
     | exact Qs.st (Qs.st (Qs.st (Qs.st (fu.out.trans (HQZ.out.trans S'.out)) _ _ (Ω _)) _ _ (Ω _)) _ _ (Ω _)) _ _ (Ω _)
     | exact Qs.st (Qs.st (Qs.st (Qs.st (fu.out.trans (HQZ.out.trans (S'.out.trans (Q.drew _)))) _ _ (Ω _)) _ _ (Ω _)) _ _ (Ω _)) _ _ (Ω _)
theorem bp.next{A B C:World}{F:Nat→Prop}{p b:Nat}{j:JL}(hl:∀k,F k→k<A.heap.size)(t1:ae F A B)(h:bp C (grow (grow F A B) B C) p b j)(t2:ae (grow F A B) B C):bp C (grow F A C) p b j∧ae F A C:=by
 have t:=t1.step t2;exact⟨h.mono (fun k hk=>lZ t1.size t2.size hk) (fun k hk=>hk.elim (fun hk=>Ψ (hl k hk) t.size) (fun hk=>hk.2)),t⟩
theorem Ro(d:af)(x:WrL):d.lays [x]=if (d.write (x.1:Nat) x.2).2=0 then(d.write (x.1:Nat) x.2).1.bw else d.write (x.1:Nat) x.2:=by
 unfold af.lays;rw[af.writes];by_cases h:(d.write (x.1:Nat) x.2).2=0
 ·rw[Φ h,Φ h]
  rfl
 ·rw[η h,η h]
theorem X7(j:JL):
  j.cz=if (j.d.write (j.place 0:Nat) ag).2≠0 then({ j with d:=(j.d.write (j.place 0:Nat) ag).1 },(j.d.write (j.place 0:Nat) ag).2) else
   if ((j.d.write (j.place 0:Nat) ag).1.bw).2≠0 then({ j with d:=(j.d.write (j.place 0:Nat) ag).1.bw.1 },(j.d.write (j.place 0:Nat) ag).1.bw.2) else
   if (((j.d.write (j.place 0:Nat) ag).1.bw).1.write ((1-j.k:Nat):Nat) (aQ j.aE)).2≠0 then({ j with d:=(((j.d.write (j.place 0:Nat) ag).1.bw).1.write ((1-j.k:Nat):Nat) (aQ j.aE)).1 },(((j.d.write (j.place 0:Nat) ag).1.bw).1.write ((1-j.k:Nat):Nat) (aQ j.aE)).2) else
   if ((((j.d.write (j.place 0:Nat) ag).1.bw).1.write ((1-j.k:Nat):Nat) (aQ j.aE)).1.bw).2≠0 then({ j with d:=(((j.d.write (j.place 0:Nat) ag).1.bw).1.write ((1-j.k:Nat):Nat) (aQ j.aE)).1.bw.1 },(((j.d.write (j.place 0:Nat) ag).1.bw).1.write ((1-j.k:Nat):Nat) (aQ j.aE)).1.bw.2) else
   (⟨(((j.d.write (j.place 0:Nat) ag).1.bw).1.write ((1-j.k:Nat):Nat) (aQ j.aE)).1.bw.1,j.aE,1-j.k,j.next,0⟩,0):=by
 unfold JL.cz JL.cW JL.cM;simp only[Ro];generalize j.d.write (j.place 0:Nat) ag=dA;by_cases h1:dA.2=0
 ·simp only[h1,PM,ne_eq,not_true,ON]
  generalize dA.1.bw=dB;by_cases h2:dB.2=0
  ·simp only[h2,PM,ne_eq,not_true,ON]
   generalize dB.1.write ((1-j.k:Nat):Nat) (aQ j.aE)=dC;by_cases h3:dC.2=0
   ·simp only[h3,PM,ne_eq,not_true,ON]
   ·simp only[h3,ne_eq,adi,PM,ON]
  ·simp only[h2,ne_eq,adi,PM]
 ·simp only[h1,ne_eq,adi,PM,ON]
theorem Om(w:World)(F:Nat→Prop)(p b:Nat)(j:JL)(h:bp w F p b j)(hn:fW j):
  Calls prog 176 #[au p] w fun e w'=>e=.returned (.int .i64 j.cz.2)∧bp w' (grow F w w') p b j.cz.1∧ae F w w':=by
 have bW:=fun (W:World) (q:Q w W)=>Ay W p b j j.used (h.box.stays q) hn.log hn.log2 hn.place (by have:=hn.used;omega)
 have Fz:cV j.s j.used=j.place 0:=by unfold JL.place;rfl
 have ade:j.place 0≤2000000:=by have:=(gG j.s (j.used+0) hn.log).2;have:=hn.log2;unfold JL.place;omega
 rw[Fz] at bW;have hwA:=h.write hn.ok (fun hx=>by have:=hn.eJ hx;omega) (j.place 0:Nat) ag (by rw[jk];omega)
 have gL:=X7 j;have ae2:=af.eI hn.ok (j.place 0:Nat) ag;have hpA:(j.d.write (j.place 0:Nat) ag).1.dead=false→(j.d.write (j.place 0:Nat) ag).1.p.length≤900001:=fun hx=>by
  have h1:=hn.eJ (af.eh _ _ _ hx);have h2:=af.ff j.d (j.place 0:Nat) ag;omega
 have bI:=fun (W:World)=>xB W
 have ay:=h.lt;obtain⟨c0,c1,c2,c3,c4,c5,c6,c7⟩:=h.box.c8;generalize j.d.write (j.place 0:Nat) ag=dA at *;have zJ:=Hd bW;have HWA:=Hd hwA;have Ea:=Hd gL;have ae3:=Hd ae2;have wP:=Hd hpA;have HN:=Hd hn;have dY:=Hd bI;have iI:=Hd ay;have KK:=Hd (Q.refl w);clear bW hwA gL ae2 hpA hn bI ay h Fz;go_enter func176,ntmps176;go_wp2_with fail;go_region_held3 (fun w'=>w'.cell? ⟨p,0,none⟩=some (au b)∧w'.cell? ⟨p,7,none⟩=some (.int .i64 (j.used:Nat)))
  (first|exact g0|exact⟨c0,c7⟩|exact two δ c0 c7)
  (first
   | (go_at_call 244;with_reducible refine(zJ.out _ ω).mono ?_;rintro e w1 ⟨rfl,q1⟩;have s':Q w w1:=Q.trans ω q1;clear KK;have KK:=Hd s';clear s' q1)
   | (go_at_call 51;with_reducible refine(dY.out _).mono ?_;rintro e w2 ⟨rfl,q2⟩;have s':Q w w2:=Q.trans ω q2;clear KK;have KK:=Hd s';clear s' q2)
   | (go_at_call 170;with_reducible refine(HWA.out _ ω).mono ?_;rintro e w3 ⟨rfl,h3,t3⟩;have g:=bp.box h3;have g:=Blk.c8 g;have g0:=And.intro g.1 g.2.2.2.2.2.2.2;clear g;have H3:=Hd h3;have T3:=Hd t3;clear h3 t3))
 all_goals
  clear c0 c1 c2 c3 c4 c5 c6 c7;try clear g0
  by_cases uj:dA.2=0;case neg =>
   have e1:(dA.2==0)=false:=Γ.2 uj;have gL:=Ea.out;rw[Φ uj] at gL;have TW:=Hd gL;clear gL uj;go_wp2_with fail;go_ret;rw[TW.out];exact⟨rfl,H3.out,T3.out⟩
  have e1:(dA.2==0)=true:=MY.2 uj;have gL:=Ea.out;rw[η (by rw[uj];simp)] at gL
  have T9:=H3.out.bw ae3.out (fun hx=>by have h1:=wP.out hx;show dA.1.p.length≤_;omega) w3 (Q.refl _)
  have KD:=af.li ae3.out;have Ua:dA.1.bw.1.dead=false→dA.1.bw.1.p.length≤900001:=fun hx=>by
   have:=wP.out (af.j7 _ hx);have:=af.mf dA.1;omega
  simp only at T9 KD Ua;generalize dA.1.bw=dB at *;obtain⟨k0,_⟩:=H3.out.box.c8;have TW:=Hd gL;have HFB:=Hd T9;have Ub:=Hd KD;have HPB:=Hd Ua;clear gL uj T9 KD Ua Ea;go_wp2_with fail;refine HFB.out.mono ?_;rintro e w4 ⟨rfl,h4,t4⟩;have kZ:=bp.next iI.out T3.out h4 t4;have H4:=Hd kZ.1;have T4:=Hd kZ.2;clear kZ h4 t4 k0;by_cases Ei:dB.2=0;case neg =>
   have e2:(dB.2==0)=false:=Γ.2 Ei;have gL:=TW.out;rw[Φ Ei] at gL;have YU:=Hd gL;clear gL Ei;go_wp2_with fail;go_ret;rw[YU.out];exact⟨rfl,H4.out,T4.out⟩
  have e2:(dB.2==0)=true:=MY.2 Ei;have gL:=TW.out;rw[η (by rw[Ei];simp)] at gL
  have YU:=Hd gL;clear gL Ei TW;obtain⟨c0,c1,c2,c3,c4,c5,c6,c7⟩:=H4.out.box.c8;simp only at c0 c1 c2 c3 c4 c5 c6 c7;have uX:¬((j.s.log:Nat):Int)=0:=by have:=HN.out.log;omega
  have aii:¬j.s.log=0:=by have:=HN.out.log;omega
  have hwe:IntKind.u64.wrap ((j.s.e:Int)+1)=(((j.s.e+1)%18446744073709551616:Nat):Int):=by simp[IntKind.wrap,IntKind.bits,IntKind.signed]
  have L9:IntKind.i64.wrap ((j.s.place:Int)+(j.used:Int))=((j.s.place+j.used:Nat):Int):=by have:=HN.out.place;have:=HN.out.used;rw[IntWalk.i64_in _ U];omega
  have VF:(((j.s.place+j.used:Nat):Int)).tmod ((j.s.log:Nat):Int)=(((j.s.place+j.used)%j.s.log:Nat):Int):=ρ;have aas:IntKind.i64.wrap (((j.s.place+j.used)%j.s.log:Nat):Int)=(((j.s.place+j.used)%j.s.log:Nat):Int):=by have:=Sx (j.s.place+j.used) HN.out.log;have:=HN.out.log2;rw[IntWalk.i64_in _ U]
  go_wp2_with fail;go_region_held3 (fun w'=>w'.cell? ⟨p,1,none⟩=some (.int .u64 (j.s.e:Nat))∧w'.cell? ⟨p,3,none⟩=some (.int .i64 (j.s.log:Nat))∧w'.cell? ⟨p,4,none⟩=some (.int .i64 (j.s.place:Nat))∧w'.cell? ⟨p,6,none⟩=some (.int .u64 (j.next:Nat))∧w'.cell? ⟨p,7,none⟩=some (.int .i64 (j.used:Nat)))
   (first|exact⟨c1,c3,c4,c6,c7⟩|exact five (by repeat (first|with_reducible exact Q.refl _|with_reducible apply Qs.dr|with_reducible apply Qs.al|with_reducible refine Qs.st ?_ _ _ (Ω _))) c1 c3 c4 c6 c7)
   (fail)
  all_goals
   have he:(((j.s.e:Int)+1)%18446744073709551616)=((j.aE.e:Nat):Int):=by
    show(((j.s.e:Int)+1)%18446744073709551616)=(((j.s.e+1)%18446744073709551616:Nat):Int);omega
   have qH:(((j.s.place:Int)+(j.used:Int)).tmod (j.s.log:Int))=((j.aE.place:Nat):Int):=rfl;rw[he,qH];have cst:=fun (W:World)=>EM j.aE HN.out.pp W
   have sI:j.aE.s=j.next:=rfl;have wI:j.aE.log=j.s.log:=rfl;rw[sI,wI] at cst;have Sg:=Hd cst;have kJ:Q w4 ((w4.alloc (.cells #[.int .u64 (j.aE.e:Nat),.int .u64 (j.next:Nat),.int .i64 (j.s.log:Nat),.int .i64 (j.aE.place:Nat)] 172)).drew):=Qs.dr (Qs.al (Q.refl _) _);have gY:Blk ((w4.alloc (.cells #[.int .u64 (j.aE.e:Nat),.int .u64 (j.next:Nat),.int .i64 (j.s.log:Nat),.int .i64 (j.aE.place:Nat)] 172)).drew) w4.heap.size 172 #[.int .u64 (j.aE.e:Nat),.int .u64 (j.next:Nat),.int .i64 (j.s.log:Nat),.int .i64 (j.aE.place:Nat)]:=Blk.new w4 _ _;generalize hV:(w4.alloc (.cells #[.int .u64 (j.aE.e:Nat),.int .u64 (j.next:Nat),.int .i64 (j.s.log:Nat),.int .i64 (j.aE.place:Nat)] 172)).drew=w5 at *;clear hV cst sI wI he qH hwe L9 VF aas;have h5:=H4.out.keep kJ;have ajc:∀k,grow F w w4 k→k<w5.heap.size:=h5.lt;obtain⟨d0,d1,d2,d3,d4,d5,d6,d7⟩:=h5.box.c8;simp only at d0 d5;obtain⟨s0,s1,s2,s3,_⟩:=gY.c4;have Cz:IntKind.i64.wrap (1-(j.k:Int))=((1-j.k:Nat):Int):=by have:=HN.out.k;rw[IntWalk.i64_in _ U];omega
   have hwC:=h5.write Ub.out (fun hx=>by have h1:=HPB.out hx;show dB.1.p.length≤_;omega) ((1-j.k:Nat):Nat) (aQ j.aE) (by rw[gB];omega)
   simp only at hwC;have ae5:=af.eI Ub.out ((1-j.k:Nat):Nat) (aQ j.aE);have hpC:(dB.1.write ((1-j.k:Nat):Nat) (aQ j.aE)).1.dead=false→(dB.1.write ((1-j.k:Nat):Nat) (aQ j.aE)).1.p.length≤900002:=fun hx=>by
    have h1:=HPB.out (af.eh _ _ _ hx);have h2:=af.ff dB.1 ((1-j.k:Nat):Nat) (aQ j.aE);omega
   have gL:=YU.out;generalize dB.1.write ((1-j.k:Nat):Nat) (aQ j.aE)=dC at *;have pX:w4.heap.size<w5.heap.size:=gY.lt;have HWC:=Hd hwC;have aa0:=Hd ae5;have RL:=Hd hpC;have aa1:=Hd gL;have wM:=Hd gY;have H5:=Hd h5;have jK:=Hd kJ;have FN:¬grow F w w4 w4.heap.size:=fun hc=>by have:=H4.out.lt _ hc;omega
   have rW:=Hd FN;clear hwC ae5 hpC gL gY h5 kJ c0 c1 c2 c3 c4 c5 c6 c7 d1 d2 d3 d4 d6 d7 ajc YU FN KK;generalize aQ j.aE=st at *;have KK:=Hd (Q.refl w5);go_wp2_with fail;go_region_held3 (fun w'=>w'.cell? ⟨p,5,none⟩=some (.int .i64 (j.k:Nat))∧w'.cell? ⟨p,0,none⟩=some (au b)∧w'.cell? ⟨w4.heap.size,0,none⟩=some (.int .u64 (j.aE.e:Nat))∧w'.cell? ⟨w4.heap.size,1,none⟩=some (.int .u64 (j.next:Nat))∧w'.cell? ⟨w4.heap.size,2,none⟩=some (.int .i64 (j.s.log:Nat))∧w'.cell? ⟨w4.heap.size,3,none⟩=some (.int .i64 (j.aE.place:Nat)))
    (first|exact g0|exact⟨d5,d0,s0,s1,s2,s3⟩|exact And.intro (aI ω d5) (five ω d0 s0 s1 s2 s3))
    (first
     | (go_at_call 171;with_reducible refine(Sg.out _).mono ?_;rintro e w6 ⟨rfl,q6⟩;have s':Q w5 w6:=Q.trans ω q6;clear KK;have KK:=Hd s';clear s' q6)
     | (go_at_call 170;with_reducible refine(HWC.out _ ω).mono ?_;rintro e w7 ⟨rfl,h7,t7⟩;have g:=Blk.c8 (bp.box h7);have g0:=And.intro g.2.2.2.2.2.1 (And.intro g.1 (And.intro (ae.cell t7 s0 rW.out) (And.intro (ae.cell t7 s1 rW.out) (And.intro (ae.cell t7 s2 rW.out) (ae.cell t7 s3 rW.out)))));clear g;have H7:=Hd h7;have T7:=Hd t7;clear h7 t7))
   all_goals
    clear d0 d5 s0 s1 s2 s3;obtain⟨_,_,z0,z1,z2,z3⟩:=g0;have t47:ae (grow F w w4) w4 w7:=(ae.br jK.out).trans T7.out;have h47:bp w7 (grow (grow F w w4) w4 w7) p b { j with d:=dC.1 }:=H7.out.mono (fun k hk=>hk.elim .inl (fun hk=>.inr ⟨LS jK.out.size hk.1,hk.2⟩)) (fun k hk=>hk.elim (fun hk=>Ψ (H4.out.lt k hk) t47.size) (fun hk=>hk.2))
    have Mj:=bp.next iI.out T4.out h47 t47;have Wn:=Hd Mj;have hn7:¬grow (grow F w w4) w5 w7 w4.heap.size:=fun hc=>hc.elim rW.out (fun hc=>U)
    have HN7:=Hd hn7;clear t47 h47 Mj hn7;by_cases Ej:dC.2=0;case neg =>
     have e3:(dC.2==0)=false:=Γ.2 Ej;have gL:=aa1.out;rw[Φ Ej] at gL;have Uc:=Hd gL;clear gL Ej;go_wp2_with fail;go_ret;rw[Uc.out];exact⟨rfl,Wn.out.1,Wn.out.2⟩
    have e3:(dC.2==0)=true:=MY.2 Ej;have gL:=aa1.out;rw[η (by rw[Ej];simp)] at gL
    have Ud:=H7.out.bw aa0.out (fun hx=>by have h1:=RL.out hx;show dC.1.p.length≤_;omega) w7 (Q.refl _)
    simp only at Ud;generalize dC.1.bw=dD at *;obtain⟨k0,_⟩:=Wn.out.1.box.c8;have Uc:=Hd gL;have HFD:=Hd Ud;clear gL Ej Ud aa1;go_wp2_with fail;refine HFD.out.mono ?_;rintro e w8 ⟨rfl,h8,t8⟩;have y0:=t8.cell z0 HN7.out;have y1:=t8.cell z1 HN7.out;have y2:=t8.cell z2 HN7.out;have y3:=t8.cell z3 HN7.out;have t48:ae (grow F w w4) w4 w8:=(ae.br jK.out).trans (T7.out.step t8);have h48:bp w8 (grow (grow F w w4) w4 w8) p b { j with d:=dD.1 }:=h8.mono (fun k hk=>by
     have Me:=jK.out.size;have hz7:=T7.out.size;rcases hk with (hk|hk)|hk
     ·exact .inl hk
     ·exact .inr ⟨U,by have:=t8.size;omega⟩
     ·exact .inr ⟨U,hk.2⟩) (fun k hk=>hk.elim (fun hk=>Ψ (H4.out.lt k hk) t48.size) (fun hk=>hk.2))
    have xH:=bp.next iI.out T4.out h48 t48;have Ue:=Hd xH;clear xH k0 t48 h48 h8 t8 z0 z1 z2 z3;by_cases Wo:dD.2=0;case neg =>
     have e4:(dD.2==0)=false:=Γ.2 Wo;have gL:=Uc.out;rw[Φ Wo] at gL;have aa2:=Hd gL;clear gL Wo;go_wp2_with fail;go_ret;rw[aa2.out];exact⟨rfl,Ue.out.1,Ue.out.2⟩
    have e4:(dD.2==0)=true:=MY.2 Wo;have gL:=Uc.out;rw[η (by rw[Wo];simp)] at gL
    have aa2:=Hd gL;clear gL Wo Uc;have Fa:=Ue.out.1.box;obtain⟨d0,d1,d2,d3,d4,d5,d6,d7⟩:=Fa.c8;have f1:=Fa.frozen 1;have f2:=Fa.frozen 2;have f3:=Fa.frozen 3;have f4:=Fa.frozen 4;have f5:=Fa.frozen 5;have f7:=Fa.frozen 7;have bZ:Blk ((((((w8.setCell ⟨p,1,none⟩ (.int .u64 (j.aE.e:Nat))).setCell ⟨p,2,none⟩ (.int .u64 (j.next:Nat))).setCell ⟨p,3,none⟩ (.int .i64 (j.s.log:Nat))).setCell ⟨p,4,none⟩ (.int .i64 (j.aE.place:Nat))).setCell ⟨p,5,none⟩ (.int .i64 ((1-j.k:Nat):Int))).setCell ⟨p,7,none⟩ (.int .i64 0)) p 174 (jd b ⟨dD.1,j.aE,1-j.k,j.next,0⟩):=((((((Fa.set 1 (.int .u64 (j.aE.e:Nat))).set 2 (.int .u64 (j.next:Nat))).set 3 (.int .i64 (j.s.log:Nat))).set 4 (.int .i64 (j.aE.place:Nat))).set 5 (.int .i64 ((1-j.k:Nat):Int))).set 7 (.int .i64 0));have ht:ae (fun k=>k=p) w8 ((((((w8.setCell ⟨p,1,none⟩ (.int .u64 (j.aE.e:Nat))).setCell ⟨p,2,none⟩ (.int .u64 (j.next:Nat))).setCell ⟨p,3,none⟩ (.int .i64 (j.s.log:Nat))).setCell ⟨p,4,none⟩ (.int .i64 (j.aE.place:Nat))).setCell ⟨p,5,none⟩ (.int .i64 ((1-j.k:Nat):Int))).setCell ⟨p,7,none⟩ (.int .i64 0)):=(ae.setCell (a:=⟨p,7,none⟩) (ae.setCell (a:=⟨p,5,none⟩) (ae.setCell (a:=⟨p,4,none⟩) (ae.setCell (a:=⟨p,3,none⟩) (ae.setCell (a:=⟨p,2,none⟩) (ae.setCell (a:=⟨p,1,none⟩) (ae.refl (fun k=>k=p) w8) (.inl rfl) (.int .u64 (j.aE.e:Nat))) (.inl rfl) (.int .u64 (j.next:Nat))) (.inl rfl) (.int .i64 (j.s.log:Nat))) (.inl rfl) (.int .i64 (j.aE.place:Nat))) (.inl rfl) (.int .i64 ((1-j.k:Nat):Int))) (.inl rfl) (.int .i64 0))
    have bP:((((((w8.setCell ⟨p,1,none⟩ (.int .u64 (j.aE.e:Nat))).setCell ⟨p,2,none⟩ (.int .u64 (j.next:Nat))).setCell ⟨p,3,none⟩ (.int .i64 (j.s.log:Nat))).setCell ⟨p,4,none⟩ (.int .i64 (j.aE.place:Nat))).setCell ⟨p,5,none⟩ (.int .i64 ((1-j.k:Nat):Int))).setCell ⟨p,7,none⟩ (.int .i64 0)).heap.size=w8.heap.size:=by simp only[bO]
    have FP:bp ((((((w8.setCell ⟨p,1,none⟩ (.int .u64 (j.aE.e:Nat))).setCell ⟨p,2,none⟩ (.int .u64 (j.next:Nat))).setCell ⟨p,3,none⟩ (.int .i64 (j.s.log:Nat))).setCell ⟨p,4,none⟩ (.int .i64 (j.aE.place:Nat))).setCell ⟨p,5,none⟩ (.int .i64 ((1-j.k:Nat):Int))).setCell ⟨p,7,none⟩ (.int .i64 0)) (grow F w w8) p b ⟨dD.1,j.aE,1-j.k,j.next,0⟩:=Ue.out.1.turned bZ rfl ht;have Tg:bp ((((((w8.setCell ⟨p,1,none⟩ (.int .u64 (j.aE.e:Nat))).setCell ⟨p,2,none⟩ (.int .u64 (j.next:Nat))).setCell ⟨p,3,none⟩ (.int .i64 (j.s.log:Nat))).setCell ⟨p,4,none⟩ (.int .i64 (j.aE.place:Nat))).setCell ⟨p,5,none⟩ (.int .i64 ((1-j.k:Nat):Int))).setCell ⟨p,7,none⟩ (.int .i64 0)) (grow F w ((((((w8.setCell ⟨p,1,none⟩ (.int .u64 (j.aE.e:Nat))).setCell ⟨p,2,none⟩ (.int .u64 (j.next:Nat))).setCell ⟨p,3,none⟩ (.int .i64 (j.s.log:Nat))).setCell ⟨p,4,none⟩ (.int .i64 (j.aE.place:Nat))).setCell ⟨p,5,none⟩ (.int .i64 ((1-j.k:Nat):Int))).setCell ⟨p,7,none⟩ (.int .i64 0))) p b ⟨dD.1,j.aE,1-j.k,j.next,0⟩:=FP.mono (fun k hk=>hk.elim .inl (fun hk=>.inr ⟨hk.1,by rw[bP];exact hk.2⟩)) (fun k hk=>hk.elim (fun hk=>Ψ (iI.out k hk) (by rw[bP];exact Ue.out.2.size)) (fun hk=>hk.2))
    have htw:ae F w ((((((w8.setCell ⟨p,1,none⟩ (.int .u64 (j.aE.e:Nat))).setCell ⟨p,2,none⟩ (.int .u64 (j.next:Nat))).setCell ⟨p,3,none⟩ (.int .i64 (j.s.log:Nat))).setCell ⟨p,4,none⟩ (.int .i64 (j.aE.place:Nat))).setCell ⟨p,5,none⟩ (.int .i64 ((1-j.k:Nat):Int))).setCell ⟨p,7,none⟩ (.int .i64 0)):=Ue.out.2.step (ht.mono (fun k hk=>by subst hk;exact Ue.out.1.fp))
    have HJW:=Hd Tg;have HTW:=Hd htw;clear bZ ht bP FP Tg htw Fa;go_wp2_with fail;go_ret;rw[aa2.out];exact⟨rfl,HJW.out,HTW.out⟩
end
end Go.Proofs.YtbkahhebmpehnaaGreatDoor
