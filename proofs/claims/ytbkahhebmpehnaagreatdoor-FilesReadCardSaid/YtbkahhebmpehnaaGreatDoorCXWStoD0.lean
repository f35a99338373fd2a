/- Joined: WStoD0 to WStoJ -/
import Derived.Shelf.SlMaps.Clone
import Derived.Test.YtbkahhebmpehnaaGreatDoorCXWJrnJ
set_option linter.all false
set_option maxRecDepth 100000
set_option maxHeartbeats 8000000
namespace Go.Proofs.YtbkahhebmpehnaaGreatDoor
open Go.Proofs.Tryz
section
open Go.Shelf Go.RowKit Go.Lib
open Go.RowKit
shelf_lay_g SlLaysW.n5 Slmc 5 at Tryz 211 as Tryz.cloneI
theorem WO(w:World)(b:Nat)(m:List (Nat×Value))(h:di w b m):
  Calls prog 211 #[.map (some b)] w fun e w'=>e=.returned (.map (some w.heap.size))∧di w' w.heap.size m∧Q w w'∧w.heap.size<w'.heap.size:=by
 obtain⟨es,clock,hb,hs,hk⟩:=h;refine(AnyW.maps_Clone Tryz.cloneI b es clock w hb).mono ?_;rintro e w' ⟨rfl,rfl⟩;exact⟨rfl,⟨es,clock,(MapKept.heap_alloc w _).1,hs,hk⟩,Q.alloc _ _,κ⟩
theorem AN(l:List WrL)(w:WrL):l.length≤(bM l w).length:=by
 induction l with
 | nil=>simp[bM]
 | cons x l ih =>
  unfold bM;split
  ·simp only[Θ];omega
  ·split<;>simp
theorem yf(tx l:List WrL):tx.length≤(aZ tx l).length:=by
 unfold aZ;induction l generalizing tx with
 | nil=>exact Ω _
 | cons w l ih=>exact LS (AN tx w) (ih _)
theorem Nz(tx a b:List WrL):aZ tx (a++b)=aZ (aZ tx a) b:=by unfold aZ;rw[V2]
theorem KX(tx l:List WrL)(k:Nat)(h:k<l.length):aZ tx (l.take (k+1))=bM (aZ tx (l.take k)) l[k]∧(aZ tx (l.take (k+1))).length≤(aZ tx l).length:=by
 constructor
 ·rw[Mb h,Nz];rfl
 ·have:=yf (aZ tx (l.take (k+1))) (l.drop (k+1))
  rw[←Nz,OR] at this;exact this
theorem xx(l:List WrL)(w:WrL)(k:Nat):k∈(bM l w).map (·.1)↔k=w.1∨k∈l.map (·.1):=by
 induction l with
 | nil=>simp[bM]
 | cons x l ih =>
  unfold bM;split
  ·rw[No,MA,ih,No,MA];grind
  ·split
   ·rename_i h;simp only[No,MA,h];grind
   ·simp only[No,MA]
theorem WQ{l:List WrL}(h:l8 l):(l.map (·.1)).Nodup:=abv.2 (h.imp fun hx=>Nat.ne_of_lt hx)
theorem zv{a b:List Nat}(ha:a.Nodup)(hb:b.Nodup)(h:∀k,k∈a↔k∈b):a.length=b.length:=((W4 ha hb).2 h).length_eq
theorem B9{ti:List (Nat×Value)}(h:∀x∈ti,∃c:Int,x.2=.int .i64 c)(k:Nat)(c:Int):∀x∈cK k (.int .i64 c) ti,∃c:Int,x.2=.int .i64 c:=fun x hx=>by
 rcases yq hx with rfl|⟨hx,_⟩
 ·exact⟨c,rfl⟩
 ·exact h x hx
theorem CE{ti:List (Nat×Value)}(h:∀x∈ti,∃c:Int,x.2=.int .i64 c)(k:Nat):∃c:Int,(bC k ti).getD (.int .i64 0)=.int .i64 c:=by
 cases hg:bC k ti with
 | none=>exact⟨0,rfl⟩
 | some v=>exact h _ (gH hg)
theorem UN(w:World):(zeroValue 3).run prog w=.ok (.int .i64 0) w:=by kernel_rfl
end
section
open Go.RowKit
variable {w w':World} {FJ FC F:Nat→Prop} {sb b p cb tb most clock clock':Nat} {ms ms':Int} {mb:Nat} {m m':bU} {ti ti':List (Nat×Value)} {σ σ':StL} {K:Nat}
theorem Q.turned{A B C:World}{own:Nat→Prop}(q:Q A B)(t:ae own B C)(ho:∀k,own k→A.heap.size≤k):Q A C :=
 ⟨t.os.trans q.os,t.tape.trans q.tape,t.output.trans q.output,LS q.size t.size,fun k hk=>(t.block k (Ψ hk q.size) (fun e=>by have:=ho k e;omega)).trans (q.block k hk)⟩
theorem StG.I2(h:StG w FJ FC sb b p cb tb most clock ms mb m ti σ){w1:World}{ab:Nat}(q:Q w w1)(uU:w.heap.size≤ab)(kF:di w1 ab ti'):
  Blk (w1.setCell ⟨sb,5,none⟩ (.map (some ab))) sb 158 (nI p cb ab σ)∧di (w1.setCell ⟨sb,5,none⟩ (.map (some ab))) ab ti'∧cG (w1.setCell ⟨sb,5,none⟩ (.map (some ab))) FJ p b σ.j∧co (w1.setCell ⟨sb,5,none⟩ (.map (some ab))) FC cb p most clock ms mb m∧ae (fun k=>k=sb) w (w1.setCell ⟨sb,5,none⟩ (.map (some ab))):=by
 have h1:=h.keep q;have t:ae (fun k=>k=sb) w1 (w1.setCell ⟨sb,5,none⟩ (.map (some ab))):=ae.setCell (a:=⟨sb,5,none⟩) (ae.refl (fun k=>k=sb) w1) (.inl rfl) _
 have bX:=h.box.lt;exact⟨h1.box.set 5 _,kF.same (t.block _ kF.lt U),h1.jr.beside t (fun k hk e=>h.sF.1 (e▸hk)),h1.ca.beside t (fun k hk e=>h.sF.2 (e▸hk)),(ae.br q).trans t⟩
theorem StG.touched(h:StG w FJ FC sb b p cb tb most clock ms mb m ti σ){w2 w3:World}{ab:Nat}(uU:w.heap.size≤ab)(bN:Blk w2 sb 158 (nI p cb ab σ))(lD:di w2 ab ti')(qF:cG w2 FJ p b σ.j)(t2:ae (fun k=>k=sb) w w2)
  (t3:ae FC w2 w3) (hc:co w3 (grow FC w2 w3) cb p most clock' ms' mb m') (tx':List WrL) (ok':σ.dead=false→cP σ.n most clock' tx' σ.j.d.get m') (hk:∀k,k∈ti'.map (·.1)↔k∈tx'.map (·.1)) (hi:∀x∈ti',∃c:Int,x.2=.int .i64 c)
  (hF:∀k,FJ k∨FC k∨k=sb∨k=tb→F k) (ay:∀k,F k→k<w.heap.size) (hK:clock'≤K):ce w3 (grow F w w3) sb b { σ with tx:=tx' } K∧ae F w w3:=by
 have h2:=t2.size;have h3:=t3.size;have jy:=lD.lt;have bL:∀k,FC k→k<w.heap.size:=fun k hk=>ay k (hF k (.inr (.inl hk)))
 have zD:∀k,FJ k→k<w.heap.size:=fun k hk=>ay k (hF k (.inl hk))
 have bX:=h.box.lt;refine⟨⟨FJ,_,_,_,_,_,_,_,_,_,_,⟨t3.blk bN h.sF.2,lD.same (t3.block _ jy (fun e=>by have:=bL _ e;omega)),qF.beside t3 (fun k hk e=>h.apart k hk e),hc,fun k hk hg=>hg.elim (fun hg=>h.apart k hk hg) (fun hg=>by have:=zD k hk;omega),⟨h.sF.1,fun hg=>hg.elim h.sF.2 (fun hg=>U)⟩,⟨fun e=>by have:=zD _ e;omega,fun hg=>hg.elim (fun e=>by have:=bL _ e;omega) (fun hg=>U)⟩,ok',hk,hi⟩,fun k hk=>?_,fun k hk=>hk.elim (fun hk=>by have:=ay k hk;omega) (fun hk=>hk.2),hK⟩,?_⟩
 ·rcases hk with hk|hk|hk|hk
  ·exact .inl (hF k (.inl hk))
  ·exact hk.elim (fun hk=>.inl (hF k (.inr (.inl hk)))) (fun hk=>.inr ⟨U,hk.2⟩)
  ·exact .inl (hF k (.inr (.inr (.inl hk))))
  ·subst hk;exact .inr ⟨uU,U⟩
 ·exact(t2.mono (fun k hk=>hF k (.inr (.inr (.inl hk))))).trans (t3.mono (fun k hk=>hF k (.inr (.inl hk))))
theorem StL.pB{σ:StL}{l:List WrL}(h:48<(aZ σ.tx l).length):σ.touch l=(σ,6):=by unfold StL.touch;rw[Φ h]
theorem StL.rL{σ:StL}{l:List WrL}(h:¬48<(aZ σ.tx l).length):σ.touch l=({ σ with tx:=aZ σ.tx l },0):=by unfold StL.touch;rw[η h]
theorem KY(w:World)(F:Nat→Prop)(sb b:Nat)(σ:StL)(K:Nat)(l:List WrL)(lv:Value)(h:ce w F sb b σ K)(hn:iL σ)(hd:σ.dead=false)(hl:SlO w F lv l.length 2 (aN l))(bQ:∀x∈l,(63≤x.1∧x.1<σ.n)∧x.2.length=256)(oP:l.length≤1000)(hK:K+l.length≤1000000000000000000):
  Calls prog 143 #[au sb,lv] w fun e w'=>e=.returned (.int .i64 (σ.touch l).2)∧ce w' (grow F w w') sb b (σ.touch l).1 (K+l.length)∧ae F w w':=by
 have Zf:=fun (W:World) (q:Q w W)=>h.quiet q (SP K l.length)
 obtain⟨FJ,FC,p,cb,tb,most,clock,ms,mb,m,ti,hg,hF,ay,bL⟩:=h;obtain⟨n1,n2,n3,n4,n5,n6⟩:=hn.num hd;have kT:=hn.max;obtain⟨la,lc,rfl,lX⟩:=hl.value;have aP:∀k (hk:k<l.length),∃lb lo,la=some ⟨lb,lo,none⟩∧lb<w.heap.size∧¬F lb∧w.cell? ⟨lb,lo+k*2,none⟩=some (.int .i64 (l[k].1:Nat))∧w.cell? ⟨lb,lo+k*2+1,none⟩=some (ah l[k].2):=fun k hk=>by
  obtain⟨lb,lo,h1,h2,h3,h4⟩:=lX U;exact⟨lb,lo,h1,h2,h3,h4 _ _ (fQ l k hk).1,by have:=h4 _ _ (fQ l k hk).2;rwa [←Ps] at this⟩
 obtain⟨c0,c1,c2,c3,c4,c5⟩:=Blk.c6 hg.box;have He:=WO w tb ti hg.tm;have HC:=Hd aP;have Zg:=Hd He;have HG:=Hd hg;have HF:=Hd hF;have iI:=Hd ay;have HQT:=Hd Zf;have HO:=Hd bQ;have HD:=Hd hd;have HN:=Hd (And.intro n4 n6);clear aP He hg hF ay Zf bQ lX hl hd n1 n2 n3 n4 n5 n6 hn;go_enter func143,ntmps143;go_wp2_with fail;refine Zg.out.mono ?_;rintro e w1 ⟨rfl,kF,q1,bB⟩;have uU:w.heap.size≤w.heap.size:=Ω _;generalize ac8:w.heap.size=ab at kF bB uU ⊢;replace uU:w.heap.size≤ab:=aeD ac8;have HM1:=Hd kF;have dF:=Hd q1;have Hf:=Hd uU;clear kF q1 uU ac8;go_wp2_with fail;go_loopw [18] (fun v wr=>∃k:Nat,v=.int .i64 (k:Nat)∧k≤l.length∧Hid (Q w wr)∧Hid (∃m1,di wr ab m1∧(∀y,y∈m1.map (·.1)↔y∈(aZ σ.tx (l.take k)).map (·.1))∧∀x∈m1,∃c:Int,x.2=.int .i64 c)) (fun v _=>l.length-(intOf v).toNat)
 case atStart=>exact⟨0,rfl,L0 _,dF,Hd ⟨ti,HM1.out,HG.out.keys,HG.out.ints⟩⟩
 case round =>
  obtain⟨k,rfl,hk,HQ,HR⟩:=hrel;obtain⟨m1,hm,zB,oZ⟩:=HR.out;clear HR;by_cases ay:k<l.length
  ·have bq:(k:Int)<(l.length:Int):=U
   obtain⟨lb,lo,rfl,-,-,x1,x2⟩:=HC.out k ay;have y1:=aI HQ.out x1;have y2:=aI HQ.out x2;have kH:=(KX σ.tx l k ay).1;obtain⟨c,hc⟩:=CE oZ l[k].1;have hma:=fun (o:Obj)=>hm.same (w':=wr.alloc o) (Below.heap_alloc wr o _ hm.lt)
   have Ad:=Hd kH;have Jt:=Hd hma;have Zh:=Hd zB;have Zi:=Hd oZ;have Cv:=Hd hc;clear kH hm zB oZ hc x1 x2 hma;generalize l[k]=lk at *;obtain⟨i,s⟩:=lk;simp only[] at y1 y2 Ad Cv;go_wp2_with (first|(at_lookup;refine jD _ ρ _ _ 156 false ρ 3 3 underlying156 underlying3 (.int .i64 0) (UN _) ab _ (Jt.out _) i ρ ρ ?_;rw[Cv.out])|(at_mapUpdate;refine uR _ ρ _ _ _ 156 ρ 3 3 underlying156 underlying3 ab _ (Jt.out _) i (.int .i64 (wrap64 (c+1))) ρ ρ ρ ?_))
   intro w4 xD lV zY;have q4:Q w w4:=(HQ.out.trans (Q.alloc wr _)).turned (co.eK lV) (fun x hx=>by rw[hx];exact Hf.out)
   have rG:∀y,y∈(cK i (.int .i64 (wrap64 (c+1))) m1).map (·.1)↔y∈(aZ σ.tx (l.take (k+1))).map (·.1):=fun y=>by rw[Nq,Ad.out,xx,Zh.out]
   have HE:=Hd q4;have tV:Hid (∃m1,di w4 ab m1∧(∀y,y∈m1.map (·.1)↔y∈(aZ σ.tx (l.take (k+1))).map (·.1))∧∀x∈m1,∃c:Int,x.2=.int .i64 c):=Hd ⟨_,xD,rG,B9 Zi.out _ _⟩
   clear xD lV zY q4 rG y1 y2;go_wp2_with fail;go_roundw;case rel=>exact⟨k+1,by go_num,U,HE,tV⟩
   case measure=>simp[intOf];omega
  ·have bq:¬(k:Int)<(l.length:Int):=U
   obtain rfl:k=l.length:=U;rw[M1] at zB;have hlen:m1.length=(aZ σ.tx l).length:=by
    have:=zv hm.nodup (WQ (Eu l σ.tx HN.out.2.1)) zB;simpa using this
   have fT:=IU (P:=prog) hm 156 3 3 3 underlying156;by_cases hs:48<(aZ σ.tx l).length
   ·have oV:(48:Int)<(m1.length:Int):=U
    have HE:=Hd (HQT.out wr HQ.out);have HS:=Hd hs;have Jt:=Hd hm;clear hm zB oZ hlen hs;go_wp2_with fail;go_ret;rw[StL.pB HS.out];exact⟨rfl,HE.out.1,HE.out.2⟩
   ·have oV:¬(48:Int)<(m1.length:Int):=U
    obtain⟨b2,mm2,j2,ca2,t2⟩:=HG.out.I2 (ti':=m1) HQ.out Hf.out hm;obtain⟨d0,d1,d2,d3,d4,d5⟩:=Blk.c6 (HG.out.keep HQ.out).box;have f5:=(HG.out.keep HQ.out).box.frozen 5;have rM:=Hd j2;have qC:=Hd b2;have LY:=Hd mm2;have ac9:=Hd ca2;have fG:=Hd t2;have Zh:=Hd zB;have Zi:=Hd oZ;have HS:=Hd hs;have aW:wr.heap.size=(wr.setCell ⟨sb,5,none⟩ (.map (some ab))).heap.size:=(bO _ _ _).symm;have OL:w.heap.size≤wr.heap.size:=HQ.out.size;have Zj:=Hd aW;have HZ3:=Hd OL;clear hm zB oZ hlen hs b2 mm2 j2 ca2 t2 aW OL;go_upto_region 10 with fail;generalize (wr.setCell ⟨sb,5,none⟩ (.map (some ab)))=w2 at *;clear fT d0 d1 d2 d3 d4 d5 f5 hk ay;go_wp2_with fail;go_loopw [37] (fun v wr=>∃k:Nat,v=.int .i64 (k:Nat)∧k≤l.length∧Hid (ae FC w2 wr)∧Hid (∃mk,co wr (grow FC w2 wr) cb p most (clock+k) ms mb mk∧cP σ.n most (clock+k) (aZ σ.tx (l.take k)) σ.j.d.get mk)) (fun v _=>l.length-(intOf v).toNat)
    case atStart=>exact⟨0,rfl,L0 _,Hd (ae.refl _ _),Hd ⟨m,ac9.out.mono (fun x hx=>.inl hx) (fun x hx=>hx.elim (fun hx=>ac9.out.lt x hx) (fun hx=>hx.2)),HG.out.ok HD.out⟩⟩
    case round =>
     obtain⟨k,rfl,hk,HT,HR⟩:=hrel;obtain⟨mk,Bp,rO⟩:=HR.out;clear HR;by_cases ay:k<l.length
     ·have Dw:(k:Int)<(l.length:Int):=U
      obtain⟨lb,lo,rfl,OJ,qK,x1,x2⟩:=HC.out k ay;have uZ:¬FC lb:=fun e=>qK (HF.out lb (.inr (.inl e)))
      have sI:¬(fun j=>j=sb) lb:=fun e=>qK (HF.out lb (.inr (.inr (.inl e))))
      have y1:=HT.out.cell (fG.out.cell x1 sI) uZ;have y2:=HT.out.cell (fG.out.cell x2 sI) uZ;obtain⟨kH,nS⟩:=KX σ.tx l k ay;obtain⟨hi,hs⟩:=HO.out _ (LO ay);have z1:=HT.out.cell ((qC.out).cell 1 (au cb) rfl) HG.out.sF.2;have LZ:=fun (W:World) (q:Q wr W)=>AD W _ cb p σ.n most (clock+k) ms mb mk _ σ.j.d.get l[k].1 l[k].2 (Bp.keep q) rO hi U hs (by rw[←kH];have:=HS.out;omega) (Qt W _ cb p σ.n most (clock+k) ms mb mk _ σ.j.d.get (Bp.keep q) rO U)
      rw[←kH] at LZ;have z8:¬grow FC w2 wr sb:=fun hg=>hg.elim HG.out.sF.2 (fun hg=>by have:=HG.out.box.lt;have:=fG.out.size;omega)
      have Oy:¬grow FC w2 wr wr.heap.size:=fun hg=>hg.elim (fun hg=>by have:=HG.out.ca.lt _ hg;have:=fG.out.size;have:=HT.out.size;omega) (fun hg=>U)
      have HCP:=Hd LZ;have VB:=Hd z8;have HSW:=Hd Oy;clear LZ z8 Oy rO Bp x1 x2 kH nS hi hs OJ qK uZ sI;generalize l[k]=lk at *;obtain⟨i,s⟩:=lk;simp only[] at y1 y2 HCP;generalize hE:clock+k+1=ck1 at *;have KK:=Hd (Q.refl wr);go_upto_region 13 with fail;have v0:(wr.alloc (.cells #[.int .i64 (i:Nat),ah s] 134)).cell? ⟨wr.heap.size,0,none⟩=some (.int .i64 (i:Nat)):=(Blk.new wr _ _).cell 0 _ rfl;have v1:(wr.alloc (.cells #[.int .i64 (i:Nat),ah s] 134)).cell? ⟨wr.heap.size,1,none⟩=some (ah s):=(Blk.new wr _ _).cell 1 _ rfl;have v2:(wr.alloc (.cells #[.int .i64 (i:Nat),ah s] 134)).cell? ⟨sb,1,none⟩=some (au cb):=aI (Q.alloc _ _) z1;have HEQ:=Hd hE;clear hE;go_region_held3 (fun w'=>w'.cell? ⟨wr.heap.size,0,none⟩=some (.int .i64 (i:Nat))∧w'.cell? ⟨wr.heap.size,1,none⟩=some (ah s)∧w'.cell? ⟨sb,1,none⟩=some (au cb))
       (first|exact g0|exact⟨v0,v1,v2⟩|exact three (by repeat (first|with_reducible exact Q.refl _|with_reducible apply Qs.dr)) v0 v1 v2)
       (first|(go_at_call 212;with_reducible refine(HCP.out _ ω).mono ?_;rintro e w3 ⟨rfl,t3,m3,h3,o3⟩;have g0:=And.intro (t3.cell (aI (Q.drew _) v0) HSW.out) (And.intro (t3.cell (aI (Q.drew _) v1) HSW.out) (t3.cell (aI (Q.drew _) v2) VB.out));have T3:=Hd t3;have H3:=Hd (And.intro h3 o3);clear t3 h3 o3))
      all_goals
       have tq:ae (grow FC w2 wr) wr w3:=(ae.br (Qs.dr (Qs.al (Q.refl wr) _))).trans T3.out;have tt:ae FC w2 w3:=HT.out.step tq;have zV:=H3.out.1.mono (G:=grow FC w2 w3) (fun x hx=>by
        have hz:=HT.out.size;have hz':=T3.out.size;have zY:=tq.size;simp only[World.size_alloc,World.size_drew] at hz';rcases hx with (hx|hx)|hx
        ·exact .inl hx
        ·exact .inr ⟨hx.1,U⟩
        ·simp only[World.size_alloc,World.size_drew] at hx
         exact .inr ⟨U,hx.2⟩) (fun x hx=>hx.elim (fun hx=>by have:=HG.out.ca.lt x hx;have:=fG.out.size;have:=tt.size;omega) (fun hx=>hx.2))
       have nM:∃mk,co w3 (grow FC w2 w3) cb p most (clock+(k+1)) ms mb mk∧cP σ.n most (clock+(k+1)) (aZ σ.tx (l.take (k+1))) σ.j.d.get mk:=⟨m3,by rw[show clock+(k+1)=ck1 by have:=HEQ.out;omega];exact⟨zV,H3.out.2⟩⟩
       have HN3:=Hd nM;have rP:=Hd tt;clear tq tt zV nM g0 v0 v1 v2 T3 H3;go_wp2_with fail;go_roundw;case rel=>exact⟨k+1,by go_num,U,rP,HN3⟩
       case measure=>simp[intOf];omega
     ·have Dw:¬(k:Int)<(l.length:Int):=U
      obtain rfl:k=l.length:=U;rw[M1] at rO;have hend:=HG.out.touched Hf.out qC.out LY.out rM.out fG.out HT.out Bp _ (fun _=>rO) Zh.out Zi.out HF.out iI.out (K:=K+l.length) U
      have HE:=Hd hend;have Jz:=Hd Bp;clear hend Bp rO;go_wp2_with fail;go_ret;rw[StL.rL HS.out];exact⟨rfl,HE.out.1,HE.out.2⟩
end
section
open Go.RowKit
theorem ce.sb{w:World}{F:Nat→Prop}{sb b:Nat}{σ:StL}{K:Nat}(h:ce w F sb b σ K):F sb:=by
 obtain⟨FJ,FC,p,cb,tb,most,clock,ms,mb,m,ti,hg,hF,ay,bL⟩:=h;exact hF sb (.inr (.inr (.inl rfl)))
theorem KZ(w:World)(F:Nat→Prop)(sb b:Nat)(σ:StL)(K:Nat)(i:Int)(s:Bytes)(h:ce w F sb b σ K)(hn:iL σ)(hK:K+1≤1000000000000000000)(hs:s.length≤1000000000000):
  Calls prog 75 #[au sb,.int .i64 i,ah s] w fun e w'=>e=.returned (.int .i64 (σ.write i s).2)∧ce w' (grow F w w') sb b (σ.write i s).1 (K+1)∧ae F w w':=by
 have dG:=(h.quiet (Q.refl w) (ab6 K));have pU:=h;obtain⟨FJ,FC,p,cb,tb,most,clock,ms,mb,m,ti,hg,hF,ay,bL⟩:=h;have aC:=Ey true hg;have iG:=Gh i hg hn.max;obtain⟨c0,c1,c2,c3,c4,c5⟩:=Blk.c6 hg.box;have iU:=hn.map;have iH:=hn.max;have u7:256*aD σ.n≤1000000:=by unfold aD;omega
 by_cases hz:σ.state true=0
 ·obtain⟨lW,L6⟩:=wU hz
  cases gX:σ.cQ i with
  | false =>
   have hr:σ.write i s=(σ,2):=by unfold StL.write;rw[η (by rw[hz];decide),Φ gX]
   rw[hr];rw[hz] at aC;rw[gX] at iG;have HS:=Hd dG;have rJ:=Hd iG;have aX:=Hd aC;clear iG hg dG hn hF ay hr aC pU iU hz;go_enter func75,ntmps75;go_wp2_with fail;refine aX.out.mono ?_;rintro e w1 ⟨rfl,rfl⟩;go_wp2_with fail;refine rJ.out.mono ?_;rintro e w1 ⟨rfl,rfl⟩;go_wp2_with fail;go_ret;exact⟨rfl,HS.out.1,HS.out.2⟩
  | true =>
   have tT:=gX;unfold StL.cQ at tT;simp only[TX] at tT;obtain⟨j,rfl⟩:∃j:Nat,i=(j:Nat):=⟨i.toNat,U⟩;have hjn:j<σ.n:=U;have rQ:=MN σ.ai (j:Nat) w U U;rw[gQ] at rQ;cases uP:bit σ.ai j with
   | false =>
    have hr:σ.write (j:Nat) s=(σ,10):=by unfold StL.write;rw[η (by rw[hz];decide),η (by rw[gX];decide),Φ (by rw[OK];exact uP)]
    rw[hr];rw[hz] at aC;rw[gX] at iG;rw[uP] at rQ;have HS:=Hd dG;have rJ:=Hd iG;have aX:=Hd aC;have Fw:=Hd rQ;clear iG hg dG hn hF ay hr aC pU iU hz rQ uP tT;go_enter func75,ntmps75;go_wp2_with fail;refine aX.out.mono ?_;rintro e w1 ⟨rfl,rfl⟩;go_wp2_with fail;refine rJ.out.mono ?_;rintro e w1 ⟨rfl,rfl⟩;go_wp2_with fail;refine Fw.out.mono ?_;rintro e w1 ⟨rfl,rfl⟩;go_wp2_with fail;go_ret;exact⟨rfl,HS.out.1,HS.out.2⟩
   | true =>
    by_cases hl:s.length=256
    ·have hr:σ.write (j:Nat) s=σ.touch [(j,s)]:=by unfold StL.write;rw[η (by rw[hz];decide),η (by rw[gX];decide),η (by rw[OK,uP];decide),η (by simpa using hl)];rfl
     rw[hr];rw[hz] at aC;rw[gX] at iG;rw[uP] at rQ;have e1:(!((s.length:Int)==256))=false:=by rw[MY.2 U];rfl
     have e2:((s.length:Int) != 256)=false:=by rw[bne,MY.2 U];rfl
     have OM:=KY (w.alloc (.cells #[.int .i64 (j:Nat),ah s] 134)) F sb b σ K [(j,s)] (.slice (some ⟨w.heap.size,0,none⟩) 1 1) (pU.keep (Q.alloc _ _)) hn lW (SlO.lit (w:=w) (F:=F) #[.int .i64 (j:Nat),ah s] 134 1 2 rfl (fun e=>by have:=ay _ e;omega)) (fun x hx=>by rw[Mo] at hx;subst hx;exact⟨⟨by have:=tT.1;unfold ak at this;omega,hjn⟩,hl⟩) κ (by simpa using hK)
     have iI:=Hd ay;have rJ:=Hd iG;have aX:=Hd aC;have Fw:=Hd rQ;have HTC:=Hd OM;clear iG hg dG hn hF ay hr aC pU iU hz rQ uP tT OM hl;go_enter func75,ntmps75;go_wp2_with fail;refine aX.out.mono ?_;rintro e w1 ⟨rfl,rfl⟩;go_wp2_with fail;refine rJ.out.mono ?_;rintro e w1 ⟨rfl,rfl⟩;go_wp2_with fail;refine Fw.out.mono ?_;rintro e w1 ⟨rfl,rfl⟩;go_wp2_with fail;refine HTC.out.mono ?_;rintro e w1 ⟨rfl,h1,t1⟩;have H1:=Hd h1;have T1:=Hd t1;clear h1 t1;go_wp2_with fail;go_ret;have ht:ae F w w1:=(ae.br (Q.alloc w _)).trans T1.out;exact⟨rfl,H1.out.mono (fun k hk=>hk.elim .inl (fun hk=>.inr ⟨by have:=hk.1;simp at this;omega,hk.2⟩)) (fun k hk=>hk.elim (fun hk=>Ψ (iI.out k hk) ht.size) (fun hk=>hk.2)) (Ω _),ht⟩
    ·have hr:σ.write (j:Nat) s=(σ,3):=by unfold StL.write;rw[η (by rw[hz];decide),η (by rw[gX];decide),η (by rw[OK,uP];decide),Φ (by simpa using hl)]
     rw[hr];rw[hz] at aC;rw[gX] at iG;rw[uP] at rQ;have e1:((s.length:Int)==256)=false:=Γ.2 U;have HS:=Hd dG;have rJ:=Hd iG;have aX:=Hd aC;have Fw:=Hd rQ;clear iG hg dG hn hF ay hr aC pU iU hz rQ uP tT;go_enter func75,ntmps75;go_wp2_with fail;refine aX.out.mono ?_;rintro e w1 ⟨rfl,rfl⟩;go_wp2_with fail;refine rJ.out.mono ?_;rintro e w1 ⟨rfl,rfl⟩;go_wp2_with fail;refine Fw.out.mono ?_;rintro e w1 ⟨rfl,rfl⟩;go_wp2_with fail;go_ret;exact⟨rfl,HS.out.1,HS.out.2⟩
 ·have hr:σ.write i s=(σ,σ.state true):=by unfold StL.write;rw[Φ hz]
  rw[hr];have e1:(σ.state true==0)=false:=Γ.2 hz;have HS:=Hd aC;have HE:=Hd dG;clear aC hg hr hF ay dG hz pU iG hn iU;simp only at HS HE ⊢;generalize σ.state true=x at *;go_enter func75,ntmps75;go_wp2_with fail;refine HS.out.mono ?_;rintro e w1 ⟨rfl,rfl⟩;go_wp2_with fail;go_ret;exact⟨rfl,HE.out.1,HE.out.2⟩
end
section
open Go.RowKit
variable {w w':World} {FJ FC F:Nat→Prop} {sb b p cb tb most clock clock':Nat} {ms ms':Int} {mb:Nat} {m m':bU} {ti ti':List (Nat×Value)} {σ σ':StL} {K:Nat}
theorem ce.gS{F:Nat→Prop}(h:ce w F sb b σ K)(hw:∀p cb tb,Blk w sb 158 (nI p cb tb σ)→Blk w' sb 158 (nI p cb tb σ'))(t:ae (fun k=>k=sb) w w')(hj:σ'.j=σ.j)(mO:σ'.tx=σ.tx):ce w' (grow F w w') sb b σ' K∧ae F w w':=by
 have hs:=h.sb;obtain⟨FJ,FC,p,cb,tb,most,clock,ms,mb,m,ti,hg,hF,ay,bL⟩:=h;exact⟨⟨_,_,_,_,_,_,_,_,_,_,_,hg.gS t (hw _ _ _ hg.box) hj mO,fun k hk=>.inl (hF k hk),fun k hk=>hk.elim (fun hk=>Ψ (ay k hk) t.size) (fun hk=>hk.2),bL⟩,t.mono (fun k hk=>by rw[hk];exact hs)⟩
theorem ce.JW{F:Nat→Prop}(h:ce w F sb b σ K)(x:Bytes):ce (w.setCell ⟨sb,2,none⟩ (ah x)) (grow F w (w.setCell ⟨sb,2,none⟩ (ah x))) sb b { σ with ai:=x } K∧ae F w (w.setCell ⟨sb,2,none⟩ (ah x)) :=
 h.gS (fun _ _ _ hb=>hb.set 2 (ah x)) (ae.setCell (a:=⟨sb,2,none⟩) (ae.refl (fun k=>k=sb) w) (.inl rfl) _) rfl rfl
theorem ce.boxed{F:Nat→Prop}(h:ce w F sb b σ K):∃p cb tb,Blk w sb 158 (nI p cb tb σ):=by
 obtain⟨FJ,FC,p,cb,tb,most,clock,ms,mb,m,ti,hg,hF,ay,bL⟩:=h;exact⟨_,_,_,hg.box⟩
theorem ce.then{F:Nat→Prop}{w2 w3:World}(t1:ae F w w2)(hl:∀k,F k→k<w.heap.size)(h:ce w3 (grow (grow F w w2) w2 w3) sb b σ K)(t2:ae (grow F w w2) w2 w3):ce w3 (grow F w w3) sb b σ K∧ae F w w3:=by
 have t:=t1.step t2;exact⟨h.mono (fun k hk=>lZ t1.size t2.size hk) (fun k hk=>hk.elim (fun hk=>Ψ (hl k hk) t.size) (fun hk=>hk.2)) (Ω _),t⟩
theorem ce.then'{F:Nat→Prop}{w2 w3:World}(q:Q w w2)(hl:∀k,F k→k<w.heap.size)(h:ce w3 (grow F w2 w3) sb b σ K)(t2:ae F w2 w3):ce w3 (grow F w w3) sb b σ K∧ae F w w3:=by
 have t:=(ae.br (own:=F) q).trans t2;exact⟨h.mono (fun k hk=>hk.elim .inl (fun hk=>.inr ⟨LS q.size hk.1,hk.2⟩)) (fun k hk=>hk.elim (fun hk=>Ψ (hl k hk) t.size) (fun hk=>hk.2)) (Ω _),t⟩
theorem SlO.owned{F:Nat→Prop}{base:Nat}{e:TypeId}{size:Nat}{v:Value}{n:Nat}{xs:List Value}(h:w.ownsRow base e size v n xs)(hF:∀g,base≤g→¬F g):SlO w F v n size xs:=by
 refine⟨Sl.cx h,fun hn=>?_⟩
 rcases h.2 with ⟨_,h2⟩|⟨g,cap,cur,rfl,bN,hg,rest⟩
 ·omega
 ·exact⟨g,0,⟨cap,rfl⟩,(Sp.1 hg).1,hF g bN⟩
def bV(a b:Bytes)(k:Nat):List WrL:=((List.range k).filter fun i=>aG b i != aG a i).map fun i=>(63+i,aG b i)
theorem Gi(a b:Bytes)(k:Nat):bV a b (k+1)=bV a b k++if aG b k=aG a k then [] else [(63+k,aG b k)]:=by
 unfold bV;rw[Ty,ac3,N5];congr 1;by_cases h:aG b k=aG a k
 ·rw[Φ h,adB (by simp[h])];rfl
 ·rw[η h,adK (by simpa using h)];rfl
theorem pG(a b:Bytes)(k:Nat):(bV a b k).length≤k:=by
 unfold bV;rw[NE];exact LS (WN _ _) κ
theorem WS(a b:Bytes)(k n:Nat)(hk:63+k≤n)(hb:b.length=256*k):∀x∈bV a b k,(63≤x.1∧x.1<n)∧x.2.length=256:=by
 intro x hx;obtain⟨i,hi,rfl⟩:=MD.1 hx;have:=P4.1 (PF.1 hi).1;refine⟨by simp only;omega,?_⟩
 show(aG b i).length=256;unfold aG;rw[L4,L5,hb];omega
theorem NC(w:World)(F:Nat→Prop)(sb b:Nat)(σ:StL)(K:Nat)(start c:Nat)(on:Bool)(h:ce w F sb b σ K)(hn:iL σ)(hd:σ.dead=false)(hc:start+c≤σ.n)(hK:K+2≤1000000000000000000):
  Calls prog 210 #[au sb,.int .i64 (start:Nat),.int .i64 (c:Nat),.bool on] w fun e w'=>e=.returned (.int .i64 (σ.bh start c on).2)∧ce w' (grow F w w') sb b (σ.bh start c on).1 (K+2)∧ae F w w':=by
 have hF:=h.lt;have iH:=hn.max;have ES:=hn.big;have iU:=hn.map;have gK:aD σ.n≤2∧63+aD σ.n≤σ.n∧σ.n≤8*(256*aD σ.n):=by unfold aD;omega
 have kE:=vz σ.ai start c on w U U;have bX:(bF σ.ai start on c).length=256*aD σ.n:=by rw[jL,iU]
 have yg:σ.turned (bF σ.ai start on c)=bV σ.ai (bF σ.ai start on c) (aD σ.n):=rfl;have Cx:σ.bh start c on=if (σ.touch (bV σ.ai (bF σ.ai start on c) (aD σ.n))).2≠0 then σ.touch (bV σ.ai (bF σ.ai start on c) (aD σ.n)) else({ (σ.touch (bV σ.ai (bF σ.ai start on c) (aD σ.n))).1 with ai:=bF σ.ai start on c },0):=by unfold StL.bh;rw[yg]
 generalize bF σ.ai start on c=nb at *;have dZ:=fun (W:World) (q:Q w W)=>(show Calls prog 83 #[au sb] W fun e w'=>e=.returned (.int .i64 (σ.n:Nat))∧W=w' from by
  obtain⟨FJ,FC,p,cb,tb,most,clock,ms,mb,m,ti,hg,_⟩:=h.keep q;exact uT hg)
 have OM:=fun (W:World) (q:Q w W) (lv:Value) (hl:SlO W F lv (bV σ.ai nb (aD σ.n)).length 2 (aN (bV σ.ai nb (aD σ.n))))=>KY W F sb b σ K _ lv (h.keep q) hn hd hl (WS _ _ _ _ gK.2.1 bX) (by have:=pG σ.ai nb (aD σ.n);omega) (by have:=pG σ.ai nb (aD σ.n);omega)
 obtain⟨p,cb,tb,bZ⟩:=h.boxed;obtain⟨c0,c1,c2,c3,c4,c5⟩:=Blk.c6 bZ;have Vw:=fun (W:World)=>BS σ.n W U
 have D8:=fun (W:World) (i:Nat) (hi:i<aD σ.n)=>JV nb i W (by rw[bX];omega) U
 have iq:=fun (W:World) (i:Nat) (hi:i<aD σ.n)=>JV σ.ai i W (by rw[iU];omega) U
 obtain⟨i1,qG,wH,tN,hy2⟩:=info_parts nC;have R3:=Hd kE;have iV:=Hd dZ;have HTC:=Hd OM;have HPT:=Hd Vw;have HP1:=Hd D8;have kX:=Hd iq;have Hg:=Hd Cx;have HF:=Hd hF;have sO:=Hd gK;have Ko:aD σ.n≤2:=gK.1;clear kE dZ OM Vw D8 iq Cx yg bX iU h bZ gK hF hn hd;generalize aD σ.n=pn at *;generalize nS:σ.ai=m1 at *;go_enter func210,ntmps210;go_wp2_with fail;refine R3.out.mono ?_;rintro e w1 ⟨rfl,q1⟩;have q1:Q w w1:=q1;have d2:=aI q1 c2;have dF:=Hd q1;clear q1;go_wp2_with fail;refine(iV.out _ dF.out).mono ?_;rintro e w2 ⟨rfl,rfl⟩;go_wp2_with fail;refine(HPT.out _).mono ?_;rintro e w2 ⟨rfl,rfl⟩;go_wp2_with fail;go_loopw [11,29] (fun v i wr=>∃k:Nat,i=.int .i64 (k:Nat)∧k≤pn∧Hid (wr.ownsRow w1.heap.size 134 2 v (bV m1 nb k).length (aN (bV m1 nb k)))∧Hid (Q w1 wr)) (fun _ i _=>pn-(intOf i).toNat)
 case atStart=>exact⟨0,rfl,L0 _,Hd (World.ownsRow_nil _ _ _ _),Hd (Q.refl _)⟩
 case round =>
  obtain⟨k,rfl,hk,HOW,HQ⟩:=hrel;by_cases ay:k<pn
  ·have bq:(k:Int)<(pn:Int):=U
   have x1:=aI HQ.out d2;have aC:=Gi m1 nb k;have kG:=pG m1 nb k;by_cases jT:aG nb k=aG m1 k
   ·have e1:(aG nb k==aG m1 k)=true:=MY.2 jT
    rw[Φ jT,NF] at aC;have aX:=Hd aC;clear aC jT;go_wp2_with fail;refine(HP1.out _ k ay).mono ?_;rintro e w2 ⟨rfl,rfl⟩;go_wp2_with fail;refine(kX.out _ k ay).mono ?_;rintro e w2 ⟨rfl,rfl⟩;go_wp2_with fail;go_roundw;case rel=>exact⟨k+1,by go_num,U,Hd (by rw[aX.out];exact HOW.out),HQ⟩
    case measure=>simp[intOf];omega
   ·have e1:(aG nb k==aG m1 k)=false:=Γ.2 jT
    rw[η jT] at aC;have aX:=Hd aC;clear aC jT;generalize ER:bV m1 nb k=acc at *;have cO:∀u∈#[Value.int .i64 (63+(k:Int)),ah (aG nb k)].toList,u.oneCell'=true:=by intro u hu;simp at hu;rcases hu with rfl|rfl<;>rfl
    have dI:(acc.length+1)*24≤140737488355328:=U;have qJ:=Hd cO;have uY:=Hd dI;have eH:w1.heap.size≤wr.heap.size:=HQ.out.size;clear cO dI ER;go_wp2_with fail;refine(HP1.out _ k ay).mono ?_;rintro e w2 ⟨rfl,rfl⟩;go_wp2_with fail;refine(kX.out _ k ay).mono ?_;rintro e w2 ⟨rfl,rfl⟩;go_wp2_with (at_builtin;refine bG wr ρ _ _ 102 ρ w1.heap.size 134 _ i1 (.agg #[.int .i64 0,ah []]) 2 24 underlying102 qG wH tN hy2 rfl Z Z _ _ _ ρ HOW.out #[.int .i64 (63+(k:Int)),ah (aG nb k)] ρ rfl qJ.out uY.out eH ?_)
    intro g11 jI w11 iB gu lQ jR iC;have qj:Q w1 w11:=bD HQ.out HOW.out gu (Ω _) eH;have gW:w11.ownsRow w1.heap.size 134 2 (.slice (some ⟨g11,0,none⟩) (acc.length+1) jI) (bV m1 nb (k+1)).length (aN (bV m1 nb (k+1))):=by
     rw[aX.out,Δ,iF,show aN [(63+k,aG nb k)]=[.int .i64 (63+(k:Int)),ah (aG nb k)] by simp[aN,mX]];exact iB
    have oz:=Hd qj;have qW:=Hd gW;clear iB gu lQ jR iC gW qj;go_wp2_with fail;go_roundw;case rel=>exact⟨k+1,by go_num,U,qW,oz⟩
    case measure=>simp[intOf];omega
  ·have bq:¬(k:Int)<(pn:Int):=U
   obtain rfl:k=pn:=U;have hq:Q w wr:=dF.out.trans HQ.out;have dP:=HOW.out;have bB:=dF.out.size;have ig:=SlO.owned dP (F:=F) (fun g hg hf=>by have:=HF.out g hf;omega)
   have OM:=HTC.out wr hq _ ig;have aie:=Hd OM;have Fx:=Hd hq;clear OM hq dP ig;go_wp2_with fail;refine aie.out.mono ?_;rintro e w3 ⟨rfl,h3,t3⟩;by_cases hz:(σ.touch (bV m1 nb k)).2=0
   ·have e1:((σ.touch (bV m1 nb k)).2==0)=true:=MY.2 hz
    obtain⟨p3,cb3,tb3,gI⟩:=h3.boxed;have d2:=gI.cell 2 (ah (σ.touch (bV m1 nb k)).1.ai) rfl;have f2:=gI.frozen 2;have dK:σ.bh start c on=({ (σ.touch (bV m1 nb k)).1 with ai:=nb },0):=by rw[Hg.out,η (by rw[hz];decide)]
    obtain⟨h4,t4⟩:=h3.JW nb;obtain⟨h5,t5⟩:=ce.then t3 (fun i hi=>Ψ (HF.out i hi) Fx.out.size) h4 t4
    obtain⟨h6,t6⟩:=ce.then' Fx.out HF.out h5 t5;have nT:=Hd dK;have H6:=Hd h6;have T6:=Hd t6;clear h3 t3 h4 t4 h5 t5 h6 t6 gI dK hz;generalize (σ.touch (bV m1 nb k)).2=er at *;generalize (σ.touch (bV m1 nb k)).1=σ1 at *;go_wp2_with fail;go_ret;rw[nT.out];exact⟨rfl,H6.out.mono (fun _ h=>h) H6.out.lt (by have:=(pG m1 nb k);omega),T6.out⟩
   ·have e1:((σ.touch (bV m1 nb k)).2==0)=false:=Γ.2 hz
    have dK:σ.bh start c on=σ.touch (bV m1 nb k):=by rw[Hg.out,Φ hz]
    obtain⟨h6,t6⟩:=ce.then' Fx.out HF.out h3 t3;have nT:=Hd dK;have H6:=Hd h6;have T6:=Hd t6;clear h3 t3 h6 t6 dK hz;generalize σ.touch (bV m1 nb k)=st at *;go_wp2_with fail;go_ret;rw[nT.out];exact⟨rfl,H6.out.mono (fun _ h=>h) H6.out.lt (by have:=(pG m1 nb k);omega),T6.out⟩
end
section
open Go.RowKit
theorem ce.hblocks{w:World}{F:Nat→Prop}{sb b:Nat}{σ:StL}{K:Nat}(h:ce w F sb b σ K):∀W,Q w W→Calls prog 83 #[au sb] W fun e w'=>e=.returned (.int .i64 (σ.n:Nat))∧W=w':=fun W q=>by
 obtain⟨FJ,FC,p,cb,tb,most,clock,ms,mb,m,ti,hg,_⟩:=h.keep q
 exact uT hg
theorem ce.lr{w:World}{F:Nat→Prop}{sb b:Nat}{σ:StL}{K:Nat}(h:ce w F sb b σ K)(o:Bool):Calls prog 129 #[au sb,.bool o] w fun e w'=>e=.returned (.int .i64 (σ.state o))∧w=w':=by
 obtain⟨FJ,FC,p,cb,tb,most,clock,ms,mb,m,ti,hg,_⟩:=h;exact Ey o hg
theorem ce.hdata{w:World}{F:Nat→Prop}{sb b:Nat}{σ:StL}{K:Nat}(h:ce w F sb b σ K)(hn:σ.n≤4096)(i:Int):∀W,Q w W→Calls prog 141 #[au sb,.int .i64 i] W fun e w'=>e=.returned (.bool (σ.cQ i))∧W=w':=fun W q=>by
 obtain⟨FJ,FC,p,cb,tb,most,clock,ms,mb,m,ti,hg,_⟩:=h.keep q
 exact Gh i hg hn
theorem JX{σ:StL}(hn:iL σ):fA σ.ai (σ.n:Nat)=σ.n:=by
 have iU:=hn.map;have hb:=hn.big;have:σ.n≤8*(256*aD σ.n):=by unfold aD;omega
 unfold fA;omega
theorem K8(w:World)(F:Nat→Prop)(sb b:Nat)(σ:StL)(K:Nat)(c:Int)(h:ce w F sb b σ K)(hn:iL σ)(hK:K+2≤1000000000000000000):
  Calls prog 140 #[au sb,.int .i64 c] w fun e w'=>e=.returned (.tuple #[.int .i64 (σ.alloc c).2.1,.int .i64 (σ.alloc c).2.2])∧ce w' (grow F w w') sb b (σ.alloc c).1 (K+2)∧ae F w w':=by
 have dG:=fun (W:World) (q:Q w W)=>h.quiet q (SP K 2)
 have aC:=h.lr true;by_cases hz:σ.state true=0
 ·obtain⟨lW,L6⟩:=wU hz
  rw[hz] at aC;by_cases hc:c<1
  ·have hr:σ.alloc c=(σ,0,1):=by unfold StL.alloc;rw[η (by rw[hz];decide),Φ hc]
   rw[hr];have HS:=Hd (dG w (Q.refl w));have aX:=Hd aC;clear dG h aC hr hz hn;go_enter func140,ntmps140;go_wp2_with fail;refine aX.out.mono ?_;rintro e w1 ⟨rfl,rfl⟩;go_wp2_with fail;go_ret2;exact⟨rfl,HS.out.1,HS.out.2⟩
  ·obtain⟨k,rfl⟩:∃k:Nat,c=(k:Nat):=⟨c.toNat,U⟩
   have dZ:=h.hblocks;have iH:=hn.max;have iU:=hn.map;have lS:=fun (W:World)=>Ff σ.ai (σ.n:Nat) (k:Nat) W (by rw[iU];unfold aD;omega) U U
   have dQ:qh σ.ai (σ.n:Nat) (k:Nat)=i7 (fK σ.ai k σ.n):=by
    unfold qh;rw[η hc,JX hn,OK]
   rw[dQ] at lS;obtain⟨p,cb,tb,bZ⟩:=h.boxed;obtain⟨c0,c1,c2,c3,c4,c5⟩:=Blk.c6 bZ;have hF:=h.lt;cases ku:fK σ.ai k σ.n with
   | none =>
    have hr:σ.alloc (k:Nat)=(σ,0,9):=by unfold StL.alloc;rw[η (by rw[hz];decide),η hc,OK,ku]
    rw[hr];rw[ku] at lS;simp only[i7] at lS;have HS:=Hd dG;have aX:=Hd aC;have iV:=Hd dZ;have aar:=Hd lS;clear dG aC hr hz hn dZ lS dQ ku h hF iU bZ;generalize σ.ai=m1 at *;generalize σ.n=n at *;have KK:=Hd (Q.refl w);go_enter func140,ntmps140;go_wp2_with fail;refine aX.out.mono ?_;rintro e w1 ⟨rfl,rfl⟩;go_wp2_with fail;go_region_held3 (fun w'=>w'.cell? ⟨sb,2,none⟩=some (ah m1))
     (first|exact c2|exact aI δ c2)
     (first
      | (go_at_call 83;with_reducible refine(iV.out _ ω).mono ?_;rintro e w5 ⟨rfl,rfl⟩)
      | (go_at_call 209;with_reducible refine(aar.out _).mono ?_;rintro e w6 ⟨rfl,q6⟩;have s':Q w w6:=Q.trans ω (Q.of q6);clear KK;have KK:=Hd s';clear s' q6))
    all_goals
     have hq:Q w w6:=ω;have HE:=Hd (HS.out w6 hq);clear hq;go_wp2_with fail;go_ret2;exact⟨rfl,HE.out.1,HE.out.2⟩
   | some a =>
    have L8:a+k≤σ.n:=(Es _ _ _ _ ku).2.1;have tX:=fun (W:World) (q:Q w W)=>NC W F sb b σ K a k true (h.keep q) hn lW L8 hK
    have hr:σ.alloc (k:Nat)=if (σ.bh a k true).2≠0 then((σ.bh a k true).1,0,(σ.bh a k true).2) else((σ.bh a k true).1,(a:Int),0):=by unfold StL.alloc;rw[η (by rw[hz];decide),η hc,OK,ku]
    rw[ku] at lS;simp only[i7] at lS;rw[hr];have HF:=Hd hF;have HTN:=Hd tX;have aX:=Hd aC;have iV:=Hd dZ;have aar:=Hd lS;clear dG aC hr hz hn dZ lS dQ ku h hF iU bZ tX L8;generalize σ.bh a k true=st at *;generalize σ.ai=m1 at *;generalize σ.n=n at *;have KK:=Hd (Q.refl w);go_enter func140,ntmps140;go_wp2_with fail;refine aX.out.mono ?_;rintro e w1 ⟨rfl,rfl⟩;go_wp2_with fail;go_region_held3 (fun w'=>w'.cell? ⟨sb,2,none⟩=some (ah m1))
     (first|exact c2|exact aI δ c2)
     (first
      | (go_at_call 83;with_reducible refine(iV.out _ ω).mono ?_;rintro e w5 ⟨rfl,rfl⟩)
      | (go_at_call 209;with_reducible refine(aar.out _).mono ?_;rintro e w6 ⟨rfl,q6⟩;have s':Q w w6:=Q.trans ω (Q.of q6);clear KK;have KK:=Hd s';clear s' q6))
    all_goals
     have hq:Q w w6:=ω;have VE:=Hd (HTN.out w6 hq);have lG:=Hd hq;clear hq c2;go_wp2_with fail;refine VE.out.mono ?_;rintro e w7 ⟨rfl,h7,t7⟩;have H7:=Hd (ce.then' lG.out HF.out h7 t7);clear h7 t7;by_cases hz:st.2=0
     ·have e1:(st.2==0)=true:=MY.2 hz
      have HZ:=Hd hz;clear hz;go_wp2_with fail;go_ret2;try rw[η (by rw[HZ.out];decide)]
      exact⟨rfl,H7.out.1,H7.out.2⟩
     ·have e1:(st.2==0)=false:=Γ.2 hz
      have HZ:=Hd hz;clear hz;go_wp2_with fail;go_ret2;try rw[Φ HZ.out]
      exact⟨rfl,H7.out.1,H7.out.2⟩
 ·have hr:σ.alloc c=(σ,0,σ.state true):=by unfold StL.alloc;rw[Φ hz]
  rw[hr];have e1:(σ.state true==0)=false:=Γ.2 hz;have HS:=Hd aC;have HE:=Hd (dG w (Q.refl w));clear aC hr dG hz hn h;simp only at HS HE ⊢;generalize σ.state true=x at *;go_enter func140,ntmps140;go_wp2_with fail;refine HS.out.mono ?_;rintro e w1 ⟨rfl,rfl⟩;go_wp2_with fail;go_ret2;exact⟨rfl,HE.out.1,HE.out.2⟩
theorem Qu(w:World)(F:Nat→Prop)(sb b:Nat)(σ:StL)(K:Nat)(a c:Int)(h:ce w F sb b σ K)(hn:iL σ)(hz:σ.state true=0)(hb:c<1∨σ.cQ a=false∨(σ.n:Int)-a<c):
  Calls prog 165 #[au sb,.int .i64 a,.int .i64 c] w fun e w'=>e=.returned (.int .i64 2)∧w=w':=by
 have aC:=h.lr true;have iH:=hn.max;rw[hz] at aC;have iG:=h.hdata iH a w (Q.refl w);have dZ:=h.hblocks w (Q.refl w);by_cases hc:c<1
 ·have e1:decide (c<1)=true:=MM hc
  have aX:=Hd aC;clear hb h aC hz hn iG dZ;go_enter func165,ntmps165;go_wp2_with fail;refine aX.out.mono ?_;rintro e w1 ⟨rfl,rfl⟩;go_wp2_with fail;go_ret;exact⟨rfl,rfl⟩
 ·have e1:decide (c<1)=false:=Mz hc
  cases gX:σ.cQ a with
  | false =>
   rw[gX] at iG;have aX:=Hd aC;have rJ:=Hd iG;clear hb h aC hz hn iG dZ gX;go_enter func165,ntmps165;go_wp2_with fail;refine aX.out.mono ?_;rintro e w1 ⟨rfl,rfl⟩;go_wp2_with fail;refine rJ.out.mono ?_;rintro e w1 ⟨rfl,rfl⟩;go_wp2_with fail;go_ret;exact⟨rfl,rfl⟩
  | true =>
   have ay:(σ.n:Int)-a<c:=by rcases hb with hb|hb|hb;exact absurd hb hc;rw[gX] at hb;exact absurd hb Z;exact hb
   have tT:=gX;unfold StL.cQ at tT;simp only[TX] at tT;rw[gX] at iG;obtain⟨j,rfl⟩:∃j:Nat,a=(j:Nat):=⟨a.toNat,U⟩;have hw:IntKind.i64.wrap ((σ.n:Int)-(j:Int))=(σ.n:Int)-(j:Int):=IntWalk.i64_in _ U;have e2:decide ((σ.n:Int)-(j:Int)<c)=true:=MM ay;have aX:=Hd aC;have rJ:=Hd iG;have iV:=Hd dZ;clear hb h aC hz hn iG dZ gX;generalize σ.n=n at *;go_enter func165,ntmps165;go_wp2_with fail;refine aX.out.mono ?_;rintro e w1 ⟨rfl,rfl⟩;go_wp2_with fail;refine rJ.out.mono ?_;rintro e w1 ⟨rfl,rfl⟩;go_wp2_with fail;refine iV.out.mono ?_;rintro e w1 ⟨rfl,rfl⟩;go_wp2_with fail;go_ret;exact⟨rfl,rfl⟩
theorem Qv(w:World)(F:Nat→Prop)(sb b:Nat)(σ:StL)(K:Nat)(a c:Int)(h:ce w F sb b σ K)(hn:iL σ)(hK:K+2≤1000000000000000000):
  Calls prog 165 #[au sb,.int .i64 a,.int .i64 c] w fun e w'=>e=.returned (.int .i64 (σ.release a c).2)∧ce w' (grow F w w') sb b (σ.release a c).1 (K+2)∧ae F w w':=by
 have dG:=fun (W:World) (q:Q w W)=>h.quiet q (SP K 2)
 have aC:=h.lr true;by_cases hz:σ.state true=0
 ·obtain⟨lW,L6⟩:=wU hz
  by_cases hb:c<1∨σ.cQ a=false∨(σ.n:Int)-a<c
  ·have hr:σ.release a c=(σ,2):=by unfold StL.release;rw[η (by rw[hz];decide),Φ hb]
   rw[hr];refine(Qu w F sb b σ K a c h hn hz hb).mono ?_;rintro e w1 ⟨rfl,rfl⟩;exact⟨rfl,dG w (Q.refl w)⟩
  ·have hr:σ.release a c=if ∃i,i<c.toNat∧bit σ.ai (a.toNat+i)=false then(σ,10) else σ.bh a.toNat c.toNat false:=by unfold StL.release;rw[η (by rw[hz];decide),η hb]
   simp only[not_or] at hb;obtain⟨h1,h2,h3⟩:=hb;have h2:σ.cQ a=true:=by simpa using h2
   have tT:=h2;unfold StL.cQ at tT;simp only[TX] at tT;have iH:=hn.max;have iU:=hn.map;have iG:=h.hdata iH a w (Q.refl w);have dZ:=h.hblocks w (Q.refl w);rw[hz] at aC;rw[h2] at iG;obtain⟨j,rfl⟩:∃j:Nat,a=(j:Nat):=⟨a.toNat,U⟩;obtain⟨k,rfl⟩:∃k:Nat,c=(k:Nat):=⟨c.toNat,U⟩;have OC:j+k≤σ.n:=U;have hw:IntKind.i64.wrap ((σ.n:Int)-(j:Int))=(σ.n:Int)-(j:Int):=IntWalk.i64_in _ U;have e1:decide (((k:Nat):Int)<1)=false:=Mz h1;have e2:decide ((σ.n:Int)-(j:Int)<((k:Nat):Int))=false:=Mz h3;rw[OK,OK] at hr;obtain⟨p,cb,tb,bZ⟩:=h.boxed;obtain⟨c0,c1,c2,c3,c4,c5⟩:=Blk.c6 bZ;have rQ:=fun (i:Nat) (hi:i<k)=>MN σ.ai (((j+i:Nat):Nat):Int) w (by rw[iU];unfold aD;omega) U
   have tX:=NC w F sb b σ K j k false h hn lW OC hK;have Fv:(∃i,i<k∧bit σ.ai (j+i)=false)→σ.release (j:Nat) (k:Nat)=(σ,10):=fun hx=>by rw[hr,Φ hx]
   have pW:(¬∃i,i<k∧bit σ.ai (j+i)=false)→σ.release (j:Nat) (k:Nat)=σ.bh j k false:=fun hx=>by rw[hr,η hx]
   have HR1:=Hd Fv;have Ct:=Hd pW;clear Fv pW;generalize σ.release (j:Nat) (k:Nat)=r at *;have aX:=Hd aC;have rJ:=Hd iG;have iV:=Hd dZ;have Fw:=Hd rQ;have HTN:=Hd tX;have HS:=Hd (dG w (Q.refl w));clear dG aC hr hz hn dZ iU bZ tX h3 h2 rQ iG h;generalize σ.bh j k false=st at *;generalize σ.ai=m1 at *;generalize σ.n=n at *;go_enter func165,ntmps165;go_wp2_with fail;refine aX.out.mono ?_;rintro e w1 ⟨rfl,rfl⟩;go_wp2_with fail;refine rJ.out.mono ?_;rintro e w1 ⟨rfl,rfl⟩;go_wp2_with fail;refine iV.out.mono ?_;rintro e w1 ⟨rfl,rfl⟩;go_wp2_with fail;go_loopw [31] (fun v wr=>∃i:Nat,v=.int .i64 (i:Nat)∧i≤k∧wr=w∧Hid (∀x,x<i→bit m1 (j+x)=true)) (fun v _=>k-(intOf v).toNat)
   case atStart=>exact⟨0,rfl,L0 _,rfl,Hd (fun x hx=>U)⟩
   case round =>
    obtain⟨i,rfl,hi,rfl,HB⟩:=hrel;by_cases ay:i<k
    ·have bq:(i:Int)<(k:Int):=U
     have hg:=Fw.out i ay;rw[gQ] at hg;have Cy:(((j+i:Nat):Nat):Int)=(j:Int)+(i:Int):=by push_cast;rfl
     rw[Cy] at hg;have HG:=Hd hg;clear hg Cy;cases uP:bit m1 (j+i) with
     | true =>
      have gU:∀x,x<i+1→bit m1 (j+x)=true:=fun x hx=>by
       by_cases Bf:x=i
       ·subst Bf;exact uP
       ·exact HB.out x U
      have qB:=Hd gU;have hg:=HG.out;rw[uP] at hg;have jU:=Hd hg;clear hg gU uP HG;go_wp2_with fail;refine jU.out.mono ?_;rintro e w1 ⟨rfl,rfl⟩;go_wp2_with fail;go_roundw;case rel=>exact⟨i+1,by go_num,U,trivial,qB⟩
      case measure=>simp[intOf];omega
     | false =>
      have hg:=HG.out;rw[uP] at hg;have jU:=Hd hg;have HX:=Hd (HR1.out ⟨i,ay,uP⟩);clear hg uP HG;go_wp2_with fail;refine jU.out.mono ?_;rintro e w1 ⟨rfl,rfl⟩;go_wp2_with fail;go_ret;rw[HX.out];exact⟨rfl,HS.out.1,HS.out.2⟩
    ·have bq:¬(i:Int)<(k:Int):=U
     obtain rfl:i=k:=U;have HX:=Hd (Ct.out <| by
      rintro⟨x,hx,hb⟩;rw[HB.out x hx] at hb;exact absurd hb Z)
     go_wp2_with fail;refine HTN.out.mono ?_;rintro e w3 ⟨rfl,h3,t3⟩;have H3:=Hd (And.intro h3 t3);clear h3 t3;go_wp2_with fail;go_ret;rw[HX.out];exact⟨rfl,H3.out.1,H3.out.2⟩
 ·have hr:σ.release a c=(σ,σ.state true):=by unfold StL.release;rw[Φ hz]
  rw[hr];have e1:(σ.state true==0)=false:=Γ.2 hz;have HS:=Hd aC;have HE:=Hd (dG w (Q.refl w));clear aC hr dG hz hn h;simp only at HS HE ⊢;generalize σ.state true=x at *;go_enter func165,ntmps165;go_wp2_with fail;refine HS.out.mono ?_;rintro e w1 ⟨rfl,rfl⟩;go_wp2_with fail;go_ret;exact⟨rfl,HE.out.1,HE.out.2⟩
end
section
open Go.RowKit
variable {w w':World} {FJ FC F:Nat→Prop} {sb b p cb tb most clock clock':Nat} {ms ms':Int} {mb:Nat} {m m':bU} {ti ti':List (Nat×Value)} {σ σ':StL} {K:Nat}
structure StU (w:World) (FJ FC:Nat→Prop) (sb b p cb tb most clock:Nat) (ms:Int) (mb:Nat) (m:bU) (ti:List (Nat×Value)) (σ:StL):Prop where
 box:Blk w sb 158 (nI p cb tb σ)
 tm:di w tb ti
 jr:cG w FJ p b σ.j
 ca:co w FC cb p most clock ms mb m
 apart:∀k,FJ k→¬FC k
 sF:¬FJ sb∧¬FC sb
 tF:¬FJ tb∧¬FC tb
 ok:σ.dead=false→cP σ.n most clock σ.tx σ.j.d.get m
theorem StG.loose(h:StG w FJ FC sb b p cb tb most clock ms mb m ti σ):StU w FJ FC sb b p cb tb most clock ms mb m ti σ:=⟨h.box,h.tm,h.jr,h.ca,h.apart,h.sF,h.tF,h.ok⟩
def gv(w:World)(F:Nat→Prop)(sb b:Nat)(σ:StL)(K:Nat):Prop :=
 ∃FJ FC p cb tb most clock ms mb m ti,StU w FJ FC sb b p cb tb most clock ms mb m ti σ∧(∀k,FJ k∨FC k∨k=sb∨k=tb→F k)∧(∀k,F k→k<w.heap.size)∧clock≤K
theorem ce.loose(h:ce w F sb b σ K):gv w F sb b σ K:=by
 obtain⟨FJ,FC,p,cb,tb,most,clock,ms,mb,m,ti,hg,hF,ay,bL⟩:=h;exact⟨_,_,_,_,_,_,_,_,_,_,_,hg.loose,hF,ay,bL⟩
def StL.hZ(σ:StL):StL:={ σ with tx:=[],ai:=σ.was }
theorem ND(w:World)(F:Nat→Prop)(sb b:Nat)(σ:StL)(K:Nat)(h:gv w F sb b σ K):
  Calls prog 133 #[au sb] w fun e w'=>e=.returned (.tuple #[])∧gv w' F sb b σ.hZ K∧ae F w w':=by
 obtain⟨FJ,FC,p,cb,tb,most,clock,ms,mb,m,ti,hg,hF,ay,bL⟩:=h;have Ae:(m.map (·.1)).Nodup:=by
  have:=hg.ca.map.nodup;have e:(mapOf m).map (·.1)=m.map (·.1):=by simp[mapOf]
  rwa [e] at this
 have nQ:=B2 w FC cb p most clock ms mb m hg.ca Ae;obtain⟨c0,c1,c2,c3,c4,c5⟩:=Blk.c6 hg.box;have HD:=Hd nQ;have HG:=Hd hg;have HF:=Hd hF;have iI:=Hd ay;clear nQ hg hF ay;go_enter func133,ntmps133;go_wp2_with fail;refine HD.out.mono ?_;rintro e w1 ⟨rfl,h1,t1⟩;have hb1:Blk w1 sb 158 (nI p cb tb σ):=t1.blk HG.out.box HG.out.sF.2;obtain⟨d0,d1,d2,d3,d4,d5⟩:=Blk.c6 hb1;have f2:=hb1.frozen 2;have zG:ae (fun k=>k=sb) w1 (w1.setCell ⟨sb,2,none⟩ (ah σ.was)):=ae.setCell (a:=⟨sb,2,none⟩) (ae.refl (fun k=>k=sb) w1) (.inl rfl) _
 have kF:di w1 tb ti:=HG.out.tm.same (t1.block _ HG.out.tm.lt HG.out.tF.2);have aU:sb≠tb:=rX HG.out.box HG.out.tm;have hend:gv (w1.setCell ⟨sb,2,none⟩ (ah σ.was)) F sb b σ.hZ K:=by
  refine⟨FJ,FC,p,cb,tb,most,clock,ms,mb,_,ti,⟨hb1.set 2 (ah σ.was),kF.same (zG.block _ kF.lt aU.symm),(HG.out.jr.beside t1 HG.out.apart).beside zG (fun k hk e=>HG.out.sF.1 (e▸hk)),h1.beside zG (fun k hk e=>HG.out.sF.2 (e▸hk)),HG.out.apart,HG.out.sF,HG.out.tF,fun hd=>(HG.out.ok hd).dropped⟩,HF.out,fun k hk=>?_,bL⟩
  have:=iI.out k hk;have:=t1.size;have:=zG.size;omega
 have yg:ae F w (w1.setCell ⟨sb,2,none⟩ (ah σ.was)):=(t1.mono (fun k hk=>HF.out k (.inr (.inl hk)))).trans (zG.mono (fun k hk=>HF.out k (.inr (.inr (.inl hk)))))
 have HE:=Hd hend;have HT:=Hd yg;clear hend yg hb1 zG kF h1 t1;go_wp2_with fail;go_end0;exact⟨rfl,HE.out,HT.out⟩
theorem Ez(w:World)(F:Nat→Prop)(sb b:Nat)(σ:StL)(K:Nat)(h:gv w F sb b σ K)(mO:σ.tx=[]):
  Calls prog 134 #[au sb] w fun e w'=>e=.returned (.tuple #[])∧ce w' F sb b σ.close K∧ae F w w':=by
 obtain⟨FJ,FC,p,cb,tb,most,clock,ms,mb,m,ti,hg,hF,ay,bL⟩:=h;obtain⟨c0,c1,c2,c3,c4,c5⟩:=Blk.c6 hg.box;have f4:=hg.box.frozen 4;have aU:sb≠tb:=rX hg.box hg.tm;obtain⟨w1,eO⟩:∃w1,w1=w.setCell ⟨sb,4,none⟩ (.bool false):=⟨_,rfl⟩;have t1:ae (fun k=>k=sb) w w1:=by rw[eO];exact ae.setCell (a:=⟨sb,4,none⟩) (ae.refl (fun k=>k=sb) w) (.inl rfl) _
 have hb1:Blk w1 sb 158 (nI p cb tb { σ with open_:=false }):=by rw[eO];exact hg.box.set 4 _
 have kF:di w1 tb ti:=hg.tm.same (t1.block _ hg.tm.lt aU.symm);have d5:=hb1.cell 5 (.map (some tb)) rfl;have HG:=Hd hg;have HF:=Hd hF;have iI:=Hd ay;have HM:=Hd kF;have HB:=Hd hb1;have T1:=Hd t1;clear hg hF ay kF hb1 t1;go_enter func134,ntmps134;go_upto_region 1 with fail;rw[←eO];clear eO;obtain⟨w2,nU,lD,jM,aW⟩:=Px (P:=prog) HM.out 156 3 3 0 underlying156;have t2:=co.eK jM;have hend:ce w2 F sb b σ.close K:=by
  refine⟨FJ,FC,p,cb,tb,most,clock,ms,mb,m,[],⟨t2.blk HB.out aU,lD,(HG.out.jr.beside T1.out (fun k hk e=>HG.out.sF.1 (e▸hk))).beside t2 (fun k hk e=>HG.out.tF.1 (e▸hk)),(HG.out.ca.beside T1.out (fun k hk e=>HG.out.sF.2 (e▸hk))).beside t2 (fun k hk e=>HG.out.tF.2 (e▸hk)),HG.out.apart,HG.out.sF,HG.out.tF,fun hd=>?_,fun k=>Iff.rfl,fun x hx=>by simp at hx⟩,HF.out,fun k hk=>?_,bL⟩
  ·have:=HG.out.ok hd
   rw[mO] at this;exact this
  ·have:=iI.out k hk;have:=T1.out.size;have:=t2.size;omega
 have yg:ae F w w2:=(T1.out.mono (fun k hk=>HF.out k (.inr (.inr (.inl hk))))).trans (t2.mono (fun k hk=>HF.out k (.inr (.inr (.inr hk)))))
 have HE:=Hd hend;have HT:=Hd yg;clear hend yg t2 lD jM aW;go_wp2_with fail;go_end0;exact⟨rfl,HE.out,HT.out⟩
theorem WT(w:World)(F:Nat→Prop)(sb b:Nat)(σ:StL)(K:Nat)(h:ce w F sb b σ K):
  Calls prog 70 #[au sb] w fun e w'=>e=.returned (.tuple #[])∧ce w' F sb b σ.abort K∧ae F w w':=by
 obtain⟨p,cb,tb,bZ⟩:=h.boxed;obtain⟨c0,c1,c2,c3,c4,c5⟩:=Blk.c6 bZ;cases ho:σ.open_ with
 | false =>
  have hr:σ.abort=σ:=by unfold StL.abort;rw[ho];rfl
  rw[hr];rw[ho] at c4;have H:=Hd h;clear h bZ hr ho;go_enter func70,ntmps70;go_wp2_with fail;go_end0;exact⟨rfl,H.out,ae.refl _ _⟩
 | true =>
  have hr:σ.abort=σ.hZ.close:=by unfold StL.abort;rw[ho];rfl
  rw[hr];rw[ho] at c4;have nV:=ND w F sb b σ K h.loose;have H:=Hd nV;clear h bZ hr nV ho;go_enter func70,ntmps70;go_wp2_with fail;refine H.out.mono ?_;rintro e w1 ⟨rfl,h1,t1⟩;have bL:=Ez w1 F sb b σ.hZ K h1 rfl;have HC:=Hd bL;have T1:=Hd t1;clear bL t1 h1;go_wp2_with fail;refine HC.out.mono ?_;rintro e w2 ⟨rfl,h2,t2⟩;have H2:=Hd h2;have T2:=Hd t2;clear h2 t2;go_wp2_with fail;go_end0;exact⟨rfl,H2.out,T1.out.trans T2.out⟩
end
section
open Go.RowKit
theorem A6(l:List WrL):∀u∈aN l,u.oneCell'=true:=by
 intro u hu;obtain⟨d,_,hd⟩:=Pi.1 hu;simp[mX] at hd;rcases hd with rfl|rfl<;>simp[Value.oneCell']
theorem QE(v:Value)(l:List WrL)(w:World)(hv:Sl w v l.length 2 (aN l))(hn:l.length≤1000000):
  Calls prog 130 #[v] w fun e w'=>∃v',e=.returned v'∧w'.ownsRow w.heap.size 134 2 v' l.length (aN l)∧Q w w':=by
 obtain⟨i0,hi,bY,bB,aW⟩:=info_parts nC;obtain⟨xL,a,cap,rfl,aP⟩:=hv;have kV:(aN l).length=l.length*2:=xL;have yJ:=A6 l;cases a with
 | none =>
  have h0:l.length=0:=by
   by_cases h:l.length=0
   ·exact h
   ·obtain⟨b,off,e,_⟩:=aP U
    cases e
  obtain rfl:l=[]:=NL h0;clear aP xL kV yJ;go_enter func130,ntmps130;go_wp2_with fail;rw[Lib.run_eql_slice_nil _ _ _ _ _ _ _ _ underlying102];go_wp2_with fail;go_ret;exact⟨_,rfl,World.ownsRow_nil _ _ _ _,Q.refl _⟩
 | some ad =>
  have kR:∀j u,(aN l)[j]?=some u→(w.alloc (.cells #[] 134)).cell? (ad.add j)=some u:=by
   intro j u hu;have zD:j<(aN l).length:=(NX.1 hu).1;obtain⟨b,off,e,hc⟩:=aP U;cases e;rw[show(⟨b,off,none⟩:Addr).add j=⟨b,off+j,none⟩ by unfold Addr.add;split<;>simp_all]
   exact aj (Q.alloc _ _) (hc j u hu)
  have aF:(w.alloc (.cells #[] 134)).ownsRow w.heap.size 134 2 (.slice (some ⟨w.heap.size,0,none⟩) 0 0) 0 []:=⟨rfl,.inr ⟨w.heap.size,0,#[],rfl,Ω _,heap_alloc_new _ _,κ,by unfold maxLen;omega,rfl,rfl⟩⟩
  have DY:0+l.length≤maxLen:=by unfold maxLen;omega
  have nY:(0+l.length)*24≤140737488355328:=U;have fP:w.heap.size≤(w.alloc (.cells #[] 134)).heap.size:=κ;generalize aN l=xs at *;clear aP;go_enter func130,ntmps130;go_wp2_with fail;rw[Lib.run_eql_slice_nil _ _ _ _ _ _ _ _ underlying102];go_wp2_with (at_builtin;go_must (refine wpList_append_own (w.alloc (.cells #[] 134)) ρ _ _ 102 ρ w.heap.size 134 i0 (.agg #[.int .i64 0,ah []]) 2 24 underlying102 hi bY bB aW rfl Z _ 0 [] ρ aF ad l.length cap xs ρ kV kR yJ DY nY fP ?_))
  intro v' w' ho hg _;have hb:Below w.heap.size w w':=((Below.refl w.heap.size w).alloc (Ω _) _).grown hg fP (fun k hk=>by simp[Value.ownBlock] at hk;omega)
  have HO:=Hd ho;have HB:=Hd hb;clear ho hb hg;go_wp2_with fail;go_ret;exact⟨v',rfl,HO.out,HB.out⟩
theorem PL(w:World)(F:Nat→Prop)(sb b eb bs:Nat)(σ:StL)(K:Nat)(err:Int)(h:gv w F sb b σ K)(he:Boxed w eb 29 (.int .i64 err))(hb:Boxed w bs 70 (au sb))(heF:¬F eb)(Zu:¬F bs)(mO:err=0→σ.tx=[]):
  CallsD prog 132 #[au eb,au bs] .returning w fun e u' w'=>u'=.returning∧(e=.returned (.tuple #[])∧ce w' F sb b (if err=0 then σ.close else σ.hZ.close) K∧ae F w w'):=by
 have e0:=he.cell;have b0:=hb.cell;by_cases hz:err=0
 ·subst hz
  have bL:=Ez w F sb b σ K h (mO rfl);rw[Φ rfl];have HC:=Hd bL;clear bL h mO he hb heF Zu;go_enter_d func132,ntmps132;go_wp2_with fail;refine HC.out.mono ?_;rintro e w2 ⟨rfl,h2,t2⟩;have H2:=Hd h2;have T2:=Hd t2;clear h2 t2;go_wp2_with fail;go_end0;exact⟨rfl,H2.out,T2.out⟩
 ·have nV:=ND w F sb b σ K h
  rw[η hz];have e1:(err==0)=false:=Γ.2 hz;have HU:=Hd nV;have HB:=Hd hb;clear nV h mO he hz hb;go_enter_d func132,ntmps132;go_wp2_with fail;refine HU.out.mono ?_;rintro e w1 ⟨rfl,h1,t1⟩;have b1:=t1.cell b0 Zu;have bL:=Ez w1 F sb b σ.hZ K h1 rfl;have HC:=Hd bL;have T1:=Hd t1;clear bL t1 h1;go_wp2_with fail;refine HC.out.mono ?_;rintro e w2 ⟨rfl,h2,t2⟩;have H2:=Hd h2;have T2:=Hd t2;clear h2 t2;go_wp2_with fail;go_end0;exact⟨rfl,H2.out,T1.out.trans T2.out⟩
end
end Go.Proofs.YtbkahhebmpehnaaGreatDoor
