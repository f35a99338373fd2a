/- Joined: WStoD0 to WStoM -/
import Derived.Test.YtonlbpljghohmaaGreatDoorCWWCacF
import Derived.Shelf.SlMaps.Clone
import Derived.Test.YtonlbpljghohmaaGreatDoorCWWJrnJ
set_option linter.all false
set_option maxRecDepth 100000
set_option maxHeartbeats 8000000
namespace Go.Proofs.YtonlbpljghohmaaGreatDoor
open Go.Proofs.Tryz
section
open Go.Shelf Go.RowKit Go.Lib
open Go.RowKit
shelf_lay_g SlLaysW.n5 Slmc 5 at Tryz 252 as Tryz.cloneI
theorem WO(w:World)(b:Nat)(m:List (Nat×Value))(h:de w b m):
  Calls prog 252 #[.map (some b)] w fun e w'=>e=.returned (.map (some w.heap.size))∧de w' w.heap.size m∧Q w w'∧w.heap.size<w'.heap.size:=by
 obtain⟨es,clock,hb,hs,hk⟩:=h;refine(AnyW.maps_Clone Tryz.cloneI b es clock w hb).mono ?_;rintro e w' ⟨rfl,rfl⟩;exact⟨rfl,⟨es,clock,(MapKept.heap_alloc w _).1,hs,hk⟩,Q.alloc _ _,κ⟩
theorem CM(l:List WrL)(w:WrL):l.length≤(bM l w).length:=by
 induction l with
 | nil=>simp[bM]
 | cons x l ih =>
  unfold bM;split
  ·simp only[Mu];omega
  ·split<;>simp
theorem xo(tx l:List WrL):tx.length≤(aZ tx l).length:=by
 unfold aZ;induction l generalizing tx with
 | nil=>exact Ω _
 | cons w l ih=>exact My (CM tx w) (ih _)
theorem Nz(tx a b:List WrL):aZ tx (a++b)=aZ (aZ tx a) b:=by unfold aZ;rw[W5]
theorem KX(tx l:List WrL)(k:Nat)(h:k<l.length):aZ tx (l.take (k+1))=bM (aZ tx (l.take k)) l[k]∧(aZ tx (l.take (k+1))).length≤(aZ tx l).length:=by
 constructor
 ·rw[M2 h,Nz];rfl
 ·have:=xo (aZ tx (l.take (k+1))) (l.drop (k+1))
  rw[←Nz,PP] at this;exact this
theorem yi(l:List WrL)(w:WrL)(k:Nat):k∈(bM l w).map (·.1)↔k=w.1∨k∈l.map (·.1):=by
 induction l with
 | nil=>simp[bM]
 | cons x l ih =>
  unfold bM;split
  ·rw[On,NL,ih,On,NL];grind
  ·split
   ·rename_i h;simp only[On,NL,h];grind
   ·simp only[On,NL]
theorem WQ{l:List WrL}(h:l8 l):(l.map (·.1)).Nodup:=abp.2 (h.imp fun hx=>Nat.ne_of_lt hx)
theorem Fi{a b:List Nat}(ha:a.Nodup)(hb:b.Nodup)(h:∀k,k∈a↔k∈b):a.length=b.length:=((YY ha hb).2 h).length_eq
theorem A3{ti:List (Nat×Value)}(h:∀x∈ti,∃c:Int,x.2=.int .i64 c)(k:Nat)(c:Int):∀x∈cK k (.int .i64 c) ti,∃c:Int,x.2=.int .i64 c:=fun x hx=>by
 rcases BW hx with rfl|⟨hx,_⟩
 ·exact⟨c,rfl⟩
 ·exact h x hx
theorem C7{ti:List (Nat×Value)}(h:∀x∈ti,∃c:Int,x.2=.int .i64 c)(k:Nat):∃c:Int,(bC k ti).getD (.int .i64 0)=.int .i64 c:=by
 cases hg:bC k ti with
 | none=>exact⟨0,rfl⟩
 | some v=>exact h _ (gH hg)
theorem UN(w:World):(zeroValue 3).run prog w=.ok (.int .i64 0) w:=by kernel_rfl
end
section
open Go.RowKit
variable {w w':World} {FJ FC F:Nat→Prop} {sb b p cb tb most clock clock':Nat} {ms ms':Int} {mb:Nat} {m m':bU} {ti ti':List (Nat×Value)} {σ σ':StL} {K:Nat}
theorem Q.turned{A B C:World}{own:Nat→Prop}(q:Q A B)(t:ae own B C)(ho:∀k,own k→A.heap.size≤k):Q A C :=
 ⟨t.os.trans q.os,t.tape.trans q.tape,t.output.trans q.output,My q.size t.size,fun k hk=>(t.block k (Ψ hk q.size) (fun e=>by have:=ho k e;omega)).trans (q.block k hk)⟩
theorem StG.JS(h:StG w FJ FC sb b p cb tb most clock ms mb m ti σ){w1:World}{ab:Nat}(q:Q w w1)(uU:w.heap.size≤ab)(kF:de w1 ab ti'):
  Blk (w1.setCell ⟨sb,5,none⟩ (.map (some ab))) sb 172 (nI p cb ab σ)∧de (w1.setCell ⟨sb,5,none⟩ (.map (some ab))) ab ti'∧cF (w1.setCell ⟨sb,5,none⟩ (.map (some ab))) FJ p b σ.j∧cj (w1.setCell ⟨sb,5,none⟩ (.map (some ab))) FC cb p most clock ms mb m∧ae (fun k=>k=sb) w (w1.setCell ⟨sb,5,none⟩ (.map (some ab))):=by
 have h1:=h.keep q;have t:ae (fun k=>k=sb) w1 (w1.setCell ⟨sb,5,none⟩ (.map (some ab))):=ae.setCell (a:=⟨sb,5,none⟩) (ae.refl (fun k=>k=sb) w1) (.inl rfl) _
 have bX:=h.box.lt;exact⟨h1.box.set 5 _,kF.same (t.block _ kF.lt U),h1.jr.beside t (fun k hk e=>h.sF.1 (e▸hk)),h1.ca.beside t (fun k hk e=>h.sF.2 (e▸hk)),(ae.br q).trans t⟩
theorem StG.touched(h:StG w FJ FC sb b p cb tb most clock ms mb m ti σ){w2 w3:World}{ab:Nat}(uU:w.heap.size≤ab)(bN:Blk w2 sb 172 (nI p cb ab σ))(lD:de w2 ab ti')(qF:cF w2 FJ p b σ.j)(t2:ae (fun k=>k=sb) w w2)
  (t3:ae FC w2 w3) (hc:cj w3 (grow FC w2 w3) cb p most clock' ms' mb m') (tx':List WrL) (ok':σ.dead=false→cN σ.n most clock' tx' σ.j.d.get m') (hk:∀k,k∈ti'.map (·.1)↔k∈tx'.map (·.1)) (hi:∀x∈ti',∃c:Int,x.2=.int .i64 c)
  (hF:∀k,FJ k∨FC k∨k=sb∨k=tb→F k) (ay:∀k,F k→k<w.heap.size) (hK:clock'≤K):cg w3 (grow F w w3) sb b { σ with tx:=tx' } K∧ae F w w3:=by
 have h2:=t2.size;have h3:=t3.size;have jy:=lD.lt;have bL:∀k,FC k→k<w.heap.size:=fun k hk=>ay k (hF k (.inr (.inl hk)))
 have zD:∀k,FJ k→k<w.heap.size:=fun k hk=>ay k (hF k (.inl hk))
 have bX:=h.box.lt;refine⟨⟨FJ,_,_,_,_,_,_,_,_,_,_,⟨t3.blk bN h.sF.2,lD.same (t3.block _ jy (fun e=>by have:=bL _ e;omega)),qF.beside t3 (fun k hk e=>h.apart k hk e),hc,fun k hk hg=>hg.elim (fun hg=>h.apart k hk hg) (fun hg=>by have:=zD k hk;omega),⟨h.sF.1,fun hg=>hg.elim h.sF.2 (fun hg=>U)⟩,⟨fun e=>by have:=zD _ e;omega,fun hg=>hg.elim (fun e=>by have:=bL _ e;omega) (fun hg=>U)⟩,ok',hk,hi⟩,fun k hk=>?_,fun k hk=>hk.elim (fun hk=>by have:=ay k hk;omega) (fun hk=>hk.2),hK⟩,?_⟩
 ·rcases hk with hk|hk|hk|hk
  ·exact .inl (hF k (.inl hk))
  ·exact hk.elim (fun hk=>.inl (hF k (.inr (.inl hk)))) (fun hk=>.inr ⟨U,hk.2⟩)
  ·exact .inl (hF k (.inr (.inr (.inl hk))))
  ·subst hk;exact .inr ⟨uU,U⟩
 ·exact(t2.mono (fun k hk=>hF k (.inr (.inr (.inl hk))))).trans (t3.mono (fun k hk=>hF k (.inr (.inl hk))))
theorem StL.pB{σ:StL}{l:List WrL}(h:48<(aZ σ.tx l).length):σ.touch l=(σ,6):=by unfold StL.touch;rw[Φ h]
theorem StL.xr{σ:StL}{l:List WrL}(h:¬48<(aZ σ.tx l).length):σ.touch l=({ σ with tx:=aZ σ.tx l },0):=by unfold StL.touch;rw[η h]
theorem KY(w:World)(F:Nat→Prop)(sb b:Nat)(σ:StL)(K:Nat)(l:List WrL)(lv:Value)(h:cg w F sb b σ K)(hn:iL σ)(hd:σ.dead=false)(hl:SlO w F lv l.length 2 (aN l))(bQ:∀x∈l,(63≤x.1∧x.1<σ.n)∧x.2.length=256)(oP:l.length≤1000)(hK:K+l.length≤1000000000000000000):
  Calls prog 187 #[au sb,lv] w fun e w'=>e=.returned (.int .i64 (σ.touch l).2)∧cg w' (grow F w w') sb b (σ.touch l).1 (K+l.length)∧ae F w w':=by
 have Zf:=fun (W:World) (q:Q w W)=>h.quiet q (TC K l.length)
 obtain⟨FJ,FC,p,cb,tb,most,clock,ms,mb,m,ti,hg,hF,ay,bL⟩:=h;obtain⟨n1,n2,n3,n4,n5,n6⟩:=hn.num hd;have kT:=hn.max;obtain⟨la,lc,rfl,lX⟩:=hl.value;have aP:∀k (hk:k<l.length),∃lb lo,la=some ⟨lb,lo,none⟩∧lb<w.heap.size∧¬F lb∧w.cell? ⟨lb,lo+k*2,none⟩=some (.int .i64 (l[k].1:Nat))∧w.cell? ⟨lb,lo+k*2+1,none⟩=some (ah l[k].2):=fun k hk=>by
  obtain⟨lb,lo,h1,h2,h3,h4⟩:=lX U;exact⟨lb,lo,h1,h2,h3,h4 _ _ (fQ l k hk).1,by have:=h4 _ _ (fQ l k hk).2;rwa [←P0] at this⟩
 obtain⟨c0,c1,c2,c3,c4,c5⟩:=Blk.c6 hg.box;have He:=WO w tb ti hg.tm;have HC:=Hd aP;have Zg:=Hd He;have HG:=Hd hg;have HF:=Hd hF;have iI:=Hd ay;have HQT:=Hd Zf;have HO:=Hd bQ;have HD:=Hd hd;have HN:=Hd (And.intro n4 n6);clear aP He hg hF ay Zf bQ lX hl hd n1 n2 n3 n4 n5 n6 hn;go_enter func187,ntmps187;go_wp2_with fail;refine Zg.out.mono ?_;rintro e w1 ⟨rfl,kF,q1,bB⟩;have uU:w.heap.size≤w.heap.size:=Ω _;generalize ac8:w.heap.size=ab at kF bB uU ⊢;replace uU:w.heap.size≤ab:=aes ac8;have HM1:=Hd kF;have dF:=Hd q1;have Hf:=Hd uU;clear kF q1 uU ac8;go_wp2_with fail;go_loopw [18] (fun v wr=>∃k:Nat,v=.int .i64 (k:Nat)∧k≤l.length∧Hid (Q w wr)∧Hid (∃m1,de wr ab m1∧(∀y,y∈m1.map (·.1)↔y∈(aZ σ.tx (l.take k)).map (·.1))∧∀x∈m1,∃c:Int,x.2=.int .i64 c)) (fun v _=>l.length-(intOf v).toNat)
 case atStart=>exact⟨0,rfl,MD _,dF,Hd ⟨ti,HM1.out,HG.out.keys,HG.out.ints⟩⟩
 case round =>
  obtain⟨k,rfl,hk,HQ,HR⟩:=hrel;obtain⟨m1,hm,zB,oZ⟩:=HR.out;clear HR;by_cases ay:k<l.length
  ·have bq:(k:Int)<(l.length:Int):=U
   obtain⟨lb,lo,rfl,-,-,x1,x2⟩:=HC.out k ay;have y1:=aI HQ.out x1;have y2:=aI HQ.out x2;have kH:=(KX σ.tx l k ay).1;obtain⟨c,hc⟩:=C7 oZ l[k].1;have hma:=fun (o:Obj)=>hm.same (w':=wr.alloc o) (Below.heap_alloc wr o _ hm.lt)
   have Ad:=Hd kH;have Jt:=Hd hma;have Zh:=Hd zB;have Zi:=Hd oZ;have Cv:=Hd hc;clear kH hm zB oZ hc x1 x2 hma;generalize l[k]=lk at *;obtain⟨i,s⟩:=lk;simp only[] at y1 y2 Ad Cv;go_wp2_with (first|(at_lookup;refine jD _ ρ _ _ 170 false ρ 3 3 underlying170 underlying3 (.int .i64 0) (UN _) ab _ (Jt.out _) i ρ ρ ?_;rw[Cv.out])|(at_mapUpdate;refine uR _ ρ _ _ _ 170 ρ 3 3 underlying170 underlying3 ab _ (Jt.out _) i (.int .i64 (wrap64 (c+1))) ρ ρ ρ ?_))
   intro w4 xD lV zY;have q4:Q w w4:=(HQ.out.trans (Q.alloc wr _)).turned (cj.eL lV) (fun x hx=>by rw[hx];exact Hf.out)
   have rG:∀y,y∈(cK i (.int .i64 (wrap64 (c+1))) m1).map (·.1)↔y∈(aZ σ.tx (l.take (k+1))).map (·.1):=fun y=>by rw[Nq,Ad.out,yi,Zh.out]
   have HE:=Hd q4;have tV:Hid (∃m1,de w4 ab m1∧(∀y,y∈m1.map (·.1)↔y∈(aZ σ.tx (l.take (k+1))).map (·.1))∧∀x∈m1,∃c:Int,x.2=.int .i64 c):=Hd ⟨_,xD,rG,A3 Zi.out _ _⟩
   clear xD lV zY q4 rG y1 y2;go_wp2_with fail;go_roundw;case rel=>exact⟨k+1,by go_num,U,HE,tV⟩
   case measure=>simp[intOf];omega
  ·have bq:¬(k:Int)<(l.length:Int):=U
   obtain rfl:k=l.length:=U;rw[N5] at zB;have hlen:m1.length=(aZ σ.tx l).length:=by
    have:=Fi hm.nodup (WQ (Eu l σ.tx HN.out.2.1)) zB;simpa using this
   have fT:=IU (P:=prog) hm 170 3 3 3 underlying170;by_cases hs:48<(aZ σ.tx l).length
   ·have oV:(48:Int)<(m1.length:Int):=U
    have HE:=Hd (HQT.out wr HQ.out);have HS:=Hd hs;have Jt:=Hd hm;clear hm zB oZ hlen hs;go_wp2_with fail;go_ret;rw[StL.pB HS.out];exact⟨rfl,HE.out.1,HE.out.2⟩
   ·have oV:¬(48:Int)<(m1.length:Int):=U
    obtain⟨b2,mm2,j2,ca2,t2⟩:=HG.out.JS (ti':=m1) HQ.out Hf.out hm;obtain⟨d0,d1,d2,d3,d4,d5⟩:=Blk.c6 (HG.out.keep HQ.out).box;have f5:=(HG.out.keep HQ.out).box.frozen 5;have rM:=Hd j2;have qC:=Hd b2;have LY:=Hd mm2;have ac9:=Hd ca2;have fG:=Hd t2;have Zh:=Hd zB;have Zi:=Hd oZ;have HS:=Hd hs;have aW:wr.heap.size=(wr.setCell ⟨sb,5,none⟩ (.map (some ab))).heap.size:=(bO _ _ _).symm;have OL:w.heap.size≤wr.heap.size:=HQ.out.size;have Zj:=Hd aW;have HZ3:=Hd OL;clear hm zB oZ hlen hs b2 mm2 j2 ca2 t2 aW OL;go_upto_region 10 with fail;generalize (wr.setCell ⟨sb,5,none⟩ (.map (some ab)))=w2 at *;clear fT d0 d1 d2 d3 d4 d5 f5 hk ay;go_wp2_with fail;go_loopw [37] (fun v wr=>∃k:Nat,v=.int .i64 (k:Nat)∧k≤l.length∧Hid (ae FC w2 wr)∧Hid (∃mk,cj wr (grow FC w2 wr) cb p most (clock+k) ms mb mk∧cN σ.n most (clock+k) (aZ σ.tx (l.take k)) σ.j.d.get mk)) (fun v _=>l.length-(intOf v).toNat)
    case atStart=>exact⟨0,rfl,MD _,Hd (ae.refl _ _),Hd ⟨m,ac9.out.mono (fun x hx=>.inl hx) (fun x hx=>hx.elim (fun hx=>ac9.out.lt x hx) (fun hx=>hx.2)),HG.out.ok HD.out⟩⟩
    case round =>
     obtain⟨k,rfl,hk,HT,HR⟩:=hrel;obtain⟨mk,Bp,rO⟩:=HR.out;clear HR;by_cases ay:k<l.length
     ·have Dw:(k:Int)<(l.length:Int):=U
      obtain⟨lb,lo,rfl,OJ,qK,x1,x2⟩:=HC.out k ay;have uZ:¬FC lb:=fun e=>qK (HF.out lb (.inr (.inl e)))
      have sI:¬(fun j=>j=sb) lb:=fun e=>qK (HF.out lb (.inr (.inr (.inl e))))
      have y1:=HT.out.cell (fG.out.cell x1 sI) uZ;have y2:=HT.out.cell (fG.out.cell x2 sI) uZ;obtain⟨kH,nS⟩:=KX σ.tx l k ay;obtain⟨hi,hs⟩:=HO.out _ (MA ay);have z1:=HT.out.cell ((qC.out).cell 1 (au cb) rfl) HG.out.sF.2;have LZ:=fun (W:World) (q:Q wr W)=>DD W _ cb p σ.n most (clock+k) ms mb mk _ σ.j.d.get l[k].1 l[k].2 (Bp.keep q) rO hi U hs (by rw[←kH];have:=HS.out;omega) (Qt W _ cb p σ.n most (clock+k) ms mb mk _ σ.j.d.get (Bp.keep q) rO U)
      rw[←kH] at LZ;have z8:¬grow FC w2 wr sb:=fun hg=>hg.elim HG.out.sF.2 (fun hg=>by have:=HG.out.box.lt;have:=fG.out.size;omega)
      have Oy:¬grow FC w2 wr wr.heap.size:=fun hg=>hg.elim (fun hg=>by have:=HG.out.ca.lt _ hg;have:=fG.out.size;have:=HT.out.size;omega) (fun hg=>U)
      have HCP:=Hd LZ;have VB:=Hd z8;have HSW:=Hd Oy;clear LZ z8 Oy rO Bp x1 x2 kH nS hi hs OJ qK uZ sI;generalize l[k]=lk at *;obtain⟨i,s⟩:=lk;simp only[] at y1 y2 HCP;generalize hE:clock+k+1=ck1 at *;have KK:=Hd (Q.refl wr);go_upto_region 13 with fail;have v0:(wr.alloc (.cells #[.int .i64 (i:Nat),ah s] 116)).cell? ⟨wr.heap.size,0,none⟩=some (.int .i64 (i:Nat)):=(Blk.new wr _ _).cell 0 _ rfl;have v1:(wr.alloc (.cells #[.int .i64 (i:Nat),ah s] 116)).cell? ⟨wr.heap.size,1,none⟩=some (ah s):=(Blk.new wr _ _).cell 1 _ rfl;have v2:(wr.alloc (.cells #[.int .i64 (i:Nat),ah s] 116)).cell? ⟨sb,1,none⟩=some (au cb):=aI (Q.alloc _ _) z1;have HEQ:=Hd hE;clear hE;go_region_held3 (fun w'=>w'.cell? ⟨wr.heap.size,0,none⟩=some (.int .i64 (i:Nat))∧w'.cell? ⟨wr.heap.size,1,none⟩=some (ah s)∧w'.cell? ⟨sb,1,none⟩=some (au cb))
       (first|exact g0|exact⟨v0,v1,v2⟩|exact three (by repeat (first|with_reducible exact Q.refl _|with_reducible apply Qs.dr)) v0 v1 v2)
       (first|(go_at_call 253;with_reducible refine(HCP.out _ ω).mono ?_;rintro e w3 ⟨rfl,t3,m3,h3,o3⟩;have g0:=And.intro (t3.cell (aI (Q.drew _) v0) HSW.out) (And.intro (t3.cell (aI (Q.drew _) v1) HSW.out) (t3.cell (aI (Q.drew _) v2) VB.out));have T3:=Hd t3;have H3:=Hd (And.intro h3 o3);clear t3 h3 o3))
      all_goals
       have tq:ae (grow FC w2 wr) wr w3:=(ae.br (Qs.dr (Qs.al (Q.refl wr) _))).trans T3.out;have tt:ae FC w2 w3:=HT.out.step tq;have zV:=H3.out.1.mono (G:=grow FC w2 w3) (fun x hx=>by
        have hz:=HT.out.size;have hz':=T3.out.size;have zY:=tq.size;simp only[World.size_alloc,World.size_drew] at hz';rcases hx with (hx|hx)|hx
        ·exact .inl hx
        ·exact .inr ⟨hx.1,U⟩
        ·simp only[World.size_alloc,World.size_drew] at hx
         exact .inr ⟨U,hx.2⟩) (fun x hx=>hx.elim (fun hx=>by have:=HG.out.ca.lt x hx;have:=fG.out.size;have:=tt.size;omega) (fun hx=>hx.2))
       have nM:∃mk,cj w3 (grow FC w2 w3) cb p most (clock+(k+1)) ms mb mk∧cN σ.n most (clock+(k+1)) (aZ σ.tx (l.take (k+1))) σ.j.d.get mk:=⟨m3,by rw[show clock+(k+1)=ck1 by have:=HEQ.out;omega];exact⟨zV,H3.out.2⟩⟩
       have HN3:=Hd nM;have rP:=Hd tt;clear tq tt zV nM g0 v0 v1 v2 T3 H3;go_wp2_with fail;go_roundw;case rel=>exact⟨k+1,by go_num,U,rP,HN3⟩
       case measure=>simp[intOf];omega
     ·have Dw:¬(k:Int)<(l.length:Int):=U
      obtain rfl:k=l.length:=U;rw[N5] at rO;have hend:=HG.out.touched Hf.out qC.out LY.out rM.out fG.out HT.out Bp _ (fun _=>rO) Zh.out Zi.out HF.out iI.out (K:=K+l.length) U
      have HE:=Hd hend;have Jz:=Hd Bp;clear hend Bp rO;go_wp2_with fail;go_ret;rw[StL.xr HS.out];exact⟨rfl,HE.out.1,HE.out.2⟩
end
section
open Go.RowKit
theorem cg.sb{w:World}{F:Nat→Prop}{sb b:Nat}{σ:StL}{K:Nat}(h:cg w F sb b σ K):F sb:=by
 obtain⟨FJ,FC,p,cb,tb,most,clock,ms,mb,m,ti,hg,hF,ay,bL⟩:=h;exact hF sb (.inr (.inr (.inl rfl)))
theorem KZ(w:World)(F:Nat→Prop)(sb b:Nat)(σ:StL)(K:Nat)(i:Int)(s:Bytes)(h:cg w F sb b σ K)(hn:iL σ)(hK:K+1≤1000000000000000000)(hs:s.length≤1000000000000):
  Calls prog 100 #[au sb,.int .i64 i,ah s] w fun e w'=>e=.returned (.int .i64 (σ.write i s).2)∧cg w' (grow F w w') sb b (σ.write i s).1 (K+1)∧ae F w w':=by
 have dG:=(h.quiet (Q.refl w) (ab3 K));have pU:=h;obtain⟨FJ,FC,p,cb,tb,most,clock,ms,mb,m,ti,hg,hF,ay,bL⟩:=h;have aC:=Ey true hg;have iG:=Gh i hg hn.max;obtain⟨c0,c1,c2,c3,c4,c5⟩:=Blk.c6 hg.box;have iU:=hn.map;have iH:=hn.max;have u7:256*aD σ.n≤1000000:=by unfold aD;omega
 by_cases hz:σ.state true=0
 ·obtain⟨lW,L6⟩:=wU hz
  cases gX:σ.cP i with
  | false =>
   have hr:σ.write i s=(σ,2):=by unfold StL.write;rw[η (by rw[hz];decide),Φ gX]
   rw[hr];rw[hz] at aC;rw[gX] at iG;have HS:=Hd dG;have rJ:=Hd iG;have aX:=Hd aC;clear iG hg dG hn hF ay hr aC pU iU hz;go_enter func100,ntmps100;go_wp2_with fail;refine aX.out.mono ?_;rintro e w1 ⟨rfl,rfl⟩;go_wp2_with fail;refine rJ.out.mono ?_;rintro e w1 ⟨rfl,rfl⟩;go_wp2_with fail;go_ret;exact⟨rfl,HS.out.1,HS.out.2⟩
  | true =>
   have tT:=gX;unfold StL.cP at tT;simp only[Up] at tT;obtain⟨j,rfl⟩:∃j:Nat,i=(j:Nat):=⟨i.toNat,U⟩;have hjn:j<σ.n:=U;have rQ:=MN σ.ai (j:Nat) w U U;rw[gQ] at rQ;cases uP:bit σ.ai j with
   | false =>
    have hr:σ.write (j:Nat) s=(σ,10):=by unfold StL.write;rw[η (by rw[hz];decide),η (by rw[gX];decide),Φ (by rw[PM];exact uP)]
    rw[hr];rw[hz] at aC;rw[gX] at iG;rw[uP] at rQ;have HS:=Hd dG;have rJ:=Hd iG;have aX:=Hd aC;have Fw:=Hd rQ;clear iG hg dG hn hF ay hr aC pU iU hz rQ uP tT;go_enter func100,ntmps100;go_wp2_with fail;refine aX.out.mono ?_;rintro e w1 ⟨rfl,rfl⟩;go_wp2_with fail;refine rJ.out.mono ?_;rintro e w1 ⟨rfl,rfl⟩;go_wp2_with fail;refine Fw.out.mono ?_;rintro e w1 ⟨rfl,rfl⟩;go_wp2_with fail;go_ret;exact⟨rfl,HS.out.1,HS.out.2⟩
   | true =>
    by_cases hl:s.length=256
    ·have hr:σ.write (j:Nat) s=σ.touch [(j,s)]:=by unfold StL.write;rw[η (by rw[hz];decide),η (by rw[gX];decide),η (by rw[PM,uP];decide),η (by simpa using hl)];rfl
     rw[hr];rw[hz] at aC;rw[gX] at iG;rw[uP] at rQ;have e1:(!((s.length:Int)==256))=false:=by rw[NX.2 U];rfl
     have e2:((s.length:Int) != 256)=false:=by rw[bne,NX.2 U];rfl
     have OM:=KY (w.alloc (.cells #[.int .i64 (j:Nat),ah s] 116)) F sb b σ K [(j,s)] (.slice (some ⟨w.heap.size,0,none⟩) 1 1) (pU.keep (Q.alloc _ _)) hn lW (SlO.lit (w:=w) (F:=F) #[.int .i64 (j:Nat),ah s] 116 1 2 rfl (fun e=>by have:=ay _ e;omega)) (fun x hx=>by rw[M3] at hx;subst hx;exact⟨⟨by have:=tT.1;unfold ak at this;omega,hjn⟩,hl⟩) κ (by simpa using hK)
     have iI:=Hd ay;have rJ:=Hd iG;have aX:=Hd aC;have Fw:=Hd rQ;have HTC:=Hd OM;clear iG hg dG hn hF ay hr aC pU iU hz rQ uP tT OM hl;go_enter func100,ntmps100;go_wp2_with fail;refine aX.out.mono ?_;rintro e w1 ⟨rfl,rfl⟩;go_wp2_with fail;refine rJ.out.mono ?_;rintro e w1 ⟨rfl,rfl⟩;go_wp2_with fail;refine Fw.out.mono ?_;rintro e w1 ⟨rfl,rfl⟩;go_wp2_with fail;refine HTC.out.mono ?_;rintro e w1 ⟨rfl,h1,t1⟩;have H1:=Hd h1;have T1:=Hd t1;clear h1 t1;go_wp2_with fail;go_ret;have ht:ae F w w1:=(ae.br (Q.alloc w _)).trans T1.out;exact⟨rfl,H1.out.mono (fun k hk=>hk.elim .inl (fun hk=>.inr ⟨by have:=hk.1;simp at this;omega,hk.2⟩)) (fun k hk=>hk.elim (fun hk=>Ψ (iI.out k hk) ht.size) (fun hk=>hk.2)) (Ω _),ht⟩
    ·have hr:σ.write (j:Nat) s=(σ,3):=by unfold StL.write;rw[η (by rw[hz];decide),η (by rw[gX];decide),η (by rw[PM,uP];decide),Φ (by simpa using hl)]
     rw[hr];rw[hz] at aC;rw[gX] at iG;rw[uP] at rQ;have e1:((s.length:Int)==256)=false:=Γ.2 U;have HS:=Hd dG;have rJ:=Hd iG;have aX:=Hd aC;have Fw:=Hd rQ;clear iG hg dG hn hF ay hr aC pU iU hz rQ uP tT;go_enter func100,ntmps100;go_wp2_with fail;refine aX.out.mono ?_;rintro e w1 ⟨rfl,rfl⟩;go_wp2_with fail;refine rJ.out.mono ?_;rintro e w1 ⟨rfl,rfl⟩;go_wp2_with fail;refine Fw.out.mono ?_;rintro e w1 ⟨rfl,rfl⟩;go_wp2_with fail;go_ret;exact⟨rfl,HS.out.1,HS.out.2⟩
 ·have hr:σ.write i s=(σ,σ.state true):=by unfold StL.write;rw[Φ hz]
  rw[hr];have e1:(σ.state true==0)=false:=Γ.2 hz;have HS:=Hd aC;have HE:=Hd dG;clear aC hg hr hF ay dG hz pU iG hn iU;simp only at HS HE ⊢;generalize σ.state true=x at *;go_enter func100,ntmps100;go_wp2_with fail;refine HS.out.mono ?_;rintro e w1 ⟨rfl,rfl⟩;go_wp2_with fail;go_ret;exact⟨rfl,HE.out.1,HE.out.2⟩
end
section
open Go.RowKit
variable {w w':World} {FJ FC F:Nat→Prop} {sb b p cb tb most clock clock':Nat} {ms ms':Int} {mb:Nat} {m m':bU} {ti ti':List (Nat×Value)} {σ σ':StL} {K:Nat}
theorem cg.hM{F:Nat→Prop}(h:cg w F sb b σ K)(hw:∀p cb tb,Blk w sb 172 (nI p cb tb σ)→Blk w' sb 172 (nI p cb tb σ'))(t:ae (fun k=>k=sb) w w')(hj:σ'.j=σ.j)(mO:σ'.tx=σ.tx):cg w' (grow F w w') sb b σ' K∧ae F w w':=by
 have hs:=h.sb;obtain⟨FJ,FC,p,cb,tb,most,clock,ms,mb,m,ti,hg,hF,ay,bL⟩:=h;exact⟨⟨_,_,_,_,_,_,_,_,_,_,_,hg.hM t (hw _ _ _ hg.box) hj mO,fun k hk=>.inl (hF k hk),fun k hk=>hk.elim (fun hk=>Ψ (ay k hk) t.size) (fun hk=>hk.2),bL⟩,t.mono (fun k hk=>by rw[hk];exact hs)⟩
theorem cg.Lk{F:Nat→Prop}(h:cg w F sb b σ K)(x:Bytes):cg (w.setCell ⟨sb,2,none⟩ (ah x)) (grow F w (w.setCell ⟨sb,2,none⟩ (ah x))) sb b { σ with ai:=x } K∧ae F w (w.setCell ⟨sb,2,none⟩ (ah x)) :=
 h.hM (fun _ _ _ hb=>hb.set 2 (ah x)) (ae.setCell (a:=⟨sb,2,none⟩) (ae.refl (fun k=>k=sb) w) (.inl rfl) _) rfl rfl
theorem cg.boxed{F:Nat→Prop}(h:cg w F sb b σ K):∃p cb tb,Blk w sb 172 (nI p cb tb σ):=by
 obtain⟨FJ,FC,p,cb,tb,most,clock,ms,mb,m,ti,hg,hF,ay,bL⟩:=h;exact⟨_,_,_,hg.box⟩
theorem cg.then{F:Nat→Prop}{w2 w3:World}(t1:ae F w w2)(hl:∀k,F k→k<w.heap.size)(h:cg w3 (grow (grow F w w2) w2 w3) sb b σ K)(t2:ae (grow F w w2) w2 w3):cg w3 (grow F w w3) sb b σ K∧ae F w w3:=by
 have t:=t1.step t2;exact⟨h.mono (fun k hk=>lZ t1.size t2.size hk) (fun k hk=>hk.elim (fun hk=>Ψ (hl k hk) t.size) (fun hk=>hk.2)) (Ω _),t⟩
theorem cg.then'{F:Nat→Prop}{w2 w3:World}(q:Q w w2)(hl:∀k,F k→k<w.heap.size)(h:cg w3 (grow F w2 w3) sb b σ K)(t2:ae F w2 w3):cg w3 (grow F w w3) sb b σ K∧ae F w w3:=by
 have t:=(ae.br (own:=F) q).trans t2;exact⟨h.mono (fun k hk=>hk.elim .inl (fun hk=>.inr ⟨My q.size hk.1,hk.2⟩)) (fun k hk=>hk.elim (fun hk=>Ψ (hl k hk) t.size) (fun hk=>hk.2)) (Ω _),t⟩
theorem SlO.owned{F:Nat→Prop}{base:Nat}{e:TypeId}{size:Nat}{v:Value}{n:Nat}{xs:List Value}(h:w.ownsRow base e size v n xs)(hF:∀g,base≤g→¬F g):SlO w F v n size xs:=by
 refine⟨Sl.cy h,fun hn=>?_⟩
 rcases h.2 with ⟨_,h2⟩|⟨g,cap,cur,rfl,bN,hg,rest⟩
 ·omega
 ·exact⟨g,0,⟨cap,rfl⟩,(Ss.1 hg).1,hF g bN⟩
def bV(a b:Bytes)(k:Nat):List WrL:=((List.range k).filter fun i=>aG b i != aG a i).map fun i=>(63+i,aG b i)
theorem Gi(a b:Bytes)(k:Nat):bV a b (k+1)=bV a b k++if aG b k=aG a k then [] else [(63+k,aG b k)]:=by
 unfold bV;rw[UV,abW,Pu];congr 1;by_cases h:aG b k=aG a k
 ·rw[Φ h,adx (by simp[h])];rfl
 ·rw[η h,ady (by simpa using h)];rfl
theorem pG(a b:Bytes)(k:Nat):(bV a b k).length≤k:=by
 unfold bV;rw[OK];exact My (XX _ _) κ
theorem WS(a b:Bytes)(k n:Nat)(hk:63+k≤n)(hb:b.length=256*k):∀x∈bV a b k,(63≤x.1∧x.1<n)∧x.2.length=256:=by
 intro x hx;obtain⟨i,hi,rfl⟩:=NF.1 hx;have:=Sa.1 (QP.1 hi).1;refine⟨by simp only;omega,?_⟩
 show(aG b i).length=256;unfold aG;rw[Mz,MM,hb];omega
theorem NC(w:World)(F:Nat→Prop)(sb b:Nat)(σ:StL)(K:Nat)(start c:Nat)(on:Bool)(h:cg w F sb b σ K)(hn:iL σ)(hd:σ.dead=false)(hc:start+c≤σ.n)(hK:K+2≤1000000000000000000):
  Calls prog 251 #[au sb,.int .i64 (start:Nat),.int .i64 (c:Nat),.bool on] w fun e w'=>e=.returned (.int .i64 (σ.bh start c on).2)∧cg w' (grow F w w') sb b (σ.bh start c on).1 (K+2)∧ae F w w':=by
 have hF:=h.lt;have iH:=hn.max;have ES:=hn.big;have iU:=hn.map;have gK:aD σ.n≤2∧63+aD σ.n≤σ.n∧σ.n≤8*(256*aD σ.n):=by unfold aD;omega
 have kE:=vr σ.ai start c on w U U;have bX:(bF σ.ai start on c).length=256*aD σ.n:=by rw[jL,iU]
 have yg:σ.turned (bF σ.ai start on c)=bV σ.ai (bF σ.ai start on c) (aD σ.n):=rfl;have Cx:σ.bh start c on=if (σ.touch (bV σ.ai (bF σ.ai start on c) (aD σ.n))).2≠0 then σ.touch (bV σ.ai (bF σ.ai start on c) (aD σ.n)) else({ (σ.touch (bV σ.ai (bF σ.ai start on c) (aD σ.n))).1 with ai:=bF σ.ai start on c },0):=by unfold StL.bh;rw[yg]
 generalize bF σ.ai start on c=nb at *;have dZ:=fun (W:World) (q:Q w W)=>(show Calls prog 112 #[au sb] W fun e w'=>e=.returned (.int .i64 (σ.n:Nat))∧W=w' from by
  obtain⟨FJ,FC,p,cb,tb,most,clock,ms,mb,m,ti,hg,_⟩:=h.keep q;exact uT hg)
 have OM:=fun (W:World) (q:Q w W) (lv:Value) (hl:SlO W F lv (bV σ.ai nb (aD σ.n)).length 2 (aN (bV σ.ai nb (aD σ.n))))=>KY W F sb b σ K _ lv (h.keep q) hn hd hl (WS _ _ _ _ gK.2.1 bX) (by have:=pG σ.ai nb (aD σ.n);omega) (by have:=pG σ.ai nb (aD σ.n);omega)
 obtain⟨p,cb,tb,bZ⟩:=h.boxed;obtain⟨c0,c1,c2,c3,c4,c5⟩:=Blk.c6 bZ;have Vw:=fun (W:World)=>BS σ.n W U
 have D8:=fun (W:World) (i:Nat) (hi:i<aD σ.n)=>JV nb i W (by rw[bX];omega) U
 have iq:=fun (W:World) (i:Nat) (hi:i<aD σ.n)=>JV σ.ai i W (by rw[iU];omega) U
 obtain⟨i1,qG,wH,tN,hy2⟩:=info_parts nC;have R3:=Hd kE;have iV:=Hd dZ;have HTC:=Hd OM;have HPT:=Hd Vw;have HP1:=Hd D8;have kX:=Hd iq;have Hg:=Hd Cx;have HF:=Hd hF;have sO:=Hd gK;have Ko:aD σ.n≤2:=gK.1;clear kE dZ OM Vw D8 iq Cx yg bX iU h bZ gK hF hn hd;generalize aD σ.n=pn at *;generalize nS:σ.ai=m1 at *;go_enter func251,ntmps251;go_wp2_with fail;refine R3.out.mono ?_;rintro e w1 ⟨rfl,q1⟩;have q1:Q w w1:=q1;have d2:=aI q1 c2;have dF:=Hd q1;clear q1;go_wp2_with fail;refine(iV.out _ dF.out).mono ?_;rintro e w2 ⟨rfl,rfl⟩;go_wp2_with fail;refine(HPT.out _).mono ?_;rintro e w2 ⟨rfl,rfl⟩;go_wp2_with fail;go_loopw [11,29] (fun v i wr=>∃k:Nat,i=.int .i64 (k:Nat)∧k≤pn∧Hid (wr.ownsRow w1.heap.size 116 2 v (bV m1 nb k).length (aN (bV m1 nb k)))∧Hid (Q w1 wr)) (fun _ i _=>pn-(intOf i).toNat)
 case atStart=>exact⟨0,rfl,MD _,Hd (World.ownsRow_nil _ _ _ _),Hd (Q.refl _)⟩
 case round =>
  obtain⟨k,rfl,hk,HOW,HQ⟩:=hrel;by_cases ay:k<pn
  ·have bq:(k:Int)<(pn:Int):=U
   have x1:=aI HQ.out d2;have aC:=Gi m1 nb k;have kG:=pG m1 nb k;by_cases jT:aG nb k=aG m1 k
   ·have e1:(aG nb k==aG m1 k)=true:=NX.2 jT
    rw[Φ jT,ON] at aC;have aX:=Hd aC;clear aC jT;go_wp2_with fail;refine(HP1.out _ k ay).mono ?_;rintro e w2 ⟨rfl,rfl⟩;go_wp2_with fail;refine(kX.out _ k ay).mono ?_;rintro e w2 ⟨rfl,rfl⟩;go_wp2_with fail;go_roundw;case rel=>exact⟨k+1,by go_num,U,Hd (by rw[aX.out];exact HOW.out),HQ⟩
    case measure=>simp[intOf];omega
   ·have e1:(aG nb k==aG m1 k)=false:=Γ.2 jT
    rw[η jT] at aC;have aX:=Hd aC;clear aC jT;generalize ER:bV m1 nb k=acc at *;have cO:∀u∈#[Value.int .i64 (63+(k:Int)),ah (aG nb k)].toList,u.oneCell'=true:=by intro u hu;simp at hu;rcases hu with rfl|rfl<;>rfl
    have dI:(acc.length+1)*24≤140737488355328:=U;have qJ:=Hd cO;have uY:=Hd dI;have eH:w1.heap.size≤wr.heap.size:=HQ.out.size;clear cO dI ER;go_wp2_with fail;refine(HP1.out _ k ay).mono ?_;rintro e w2 ⟨rfl,rfl⟩;go_wp2_with fail;refine(kX.out _ k ay).mono ?_;rintro e w2 ⟨rfl,rfl⟩;go_wp2_with (at_builtin;refine bG wr ρ _ _ 66 ρ w1.heap.size 116 _ i1 (.agg #[.int .i64 0,ah []]) 2 24 underlying66 qG wH tN hy2 rfl Z Z _ _ _ ρ HOW.out #[.int .i64 (63+(k:Int)),ah (aG nb k)] ρ rfl qJ.out uY.out eH ?_)
    intro g11 jI w11 iB gu lQ jR iC;have qj:Q w1 w11:=bD HQ.out HOW.out gu (Ω _) eH;have gW:w11.ownsRow w1.heap.size 116 2 (.slice (some ⟨g11,0,none⟩) (acc.length+1) jI) (bV m1 nb (k+1)).length (aN (bV m1 nb (k+1))):=by
     rw[aX.out,Δ,iF,show aN [(63+k,aG nb k)]=[.int .i64 (63+(k:Int)),ah (aG nb k)] by simp[aN,mX]];exact iB
    have oz:=Hd qj;have qW:=Hd gW;clear iB gu lQ jR iC gW qj;go_wp2_with fail;go_roundw;case rel=>exact⟨k+1,by go_num,U,qW,oz⟩
    case measure=>simp[intOf];omega
  ·have bq:¬(k:Int)<(pn:Int):=U
   obtain rfl:k=pn:=U;have hq:Q w wr:=dF.out.trans HQ.out;have dP:=HOW.out;have bB:=dF.out.size;have ig:=SlO.owned dP (F:=F) (fun g hg hf=>by have:=HF.out g hf;omega)
   have OM:=HTC.out wr hq _ ig;have aie:=Hd OM;have Fx:=Hd hq;clear OM hq dP ig;go_wp2_with fail;refine aie.out.mono ?_;rintro e w3 ⟨rfl,h3,t3⟩;by_cases hz:(σ.touch (bV m1 nb k)).2=0
   ·have e1:((σ.touch (bV m1 nb k)).2==0)=true:=NX.2 hz
    obtain⟨p3,cb3,tb3,gI⟩:=h3.boxed;have d2:=gI.cell 2 (ah (σ.touch (bV m1 nb k)).1.ai) rfl;have f2:=gI.frozen 2;have dK:σ.bh start c on=({ (σ.touch (bV m1 nb k)).1 with ai:=nb },0):=by rw[Hg.out,η (by rw[hz];decide)]
    obtain⟨h4,t4⟩:=h3.Lk nb;obtain⟨h5,t5⟩:=cg.then t3 (fun i hi=>Ψ (HF.out i hi) Fx.out.size) h4 t4
    obtain⟨h6,t6⟩:=cg.then' Fx.out HF.out h5 t5;have nT:=Hd dK;have H6:=Hd h6;have T6:=Hd t6;clear h3 t3 h4 t4 h5 t5 h6 t6 gI dK hz;generalize (σ.touch (bV m1 nb k)).2=er at *;generalize (σ.touch (bV m1 nb k)).1=σ1 at *;go_wp2_with fail;go_ret;rw[nT.out];exact⟨rfl,H6.out.mono (fun _ h=>h) H6.out.lt (by have:=(pG m1 nb k);omega),T6.out⟩
   ·have e1:((σ.touch (bV m1 nb k)).2==0)=false:=Γ.2 hz
    have dK:σ.bh start c on=σ.touch (bV m1 nb k):=by rw[Hg.out,Φ hz]
    obtain⟨h6,t6⟩:=cg.then' Fx.out HF.out h3 t3;have nT:=Hd dK;have H6:=Hd h6;have T6:=Hd t6;clear h3 t3 h6 t6 dK hz;generalize σ.touch (bV m1 nb k)=st at *;go_wp2_with fail;go_ret;rw[nT.out];exact⟨rfl,H6.out.mono (fun _ h=>h) H6.out.lt (by have:=(pG m1 nb k);omega),T6.out⟩
end
section
open Go.RowKit
theorem cg.hblocks{w:World}{F:Nat→Prop}{sb b:Nat}{σ:StL}{K:Nat}(h:cg w F sb b σ K):∀W,Q w W→Calls prog 112 #[au sb] W fun e w'=>e=.returned (.int .i64 (σ.n:Nat))∧W=w':=fun W q=>by
 obtain⟨FJ,FC,p,cb,tb,most,clock,ms,mb,m,ti,hg,_⟩:=h.keep q
 exact uT hg
theorem cg.lr{w:World}{F:Nat→Prop}{sb b:Nat}{σ:StL}{K:Nat}(h:cg w F sb b σ K)(o:Bool):Calls prog 174 #[au sb,.bool o] w fun e w'=>e=.returned (.int .i64 (σ.state o))∧w=w':=by
 obtain⟨FJ,FC,p,cb,tb,most,clock,ms,mb,m,ti,hg,_⟩:=h;exact Ey o hg
theorem cg.hdata{w:World}{F:Nat→Prop}{sb b:Nat}{σ:StL}{K:Nat}(h:cg w F sb b σ K)(hn:σ.n≤4096)(i:Int):∀W,Q w W→Calls prog 110 #[au sb,.int .i64 i] W fun e w'=>e=.returned (.bool (σ.cP i))∧W=w':=fun W q=>by
 obtain⟨FJ,FC,p,cb,tb,most,clock,ms,mb,m,ti,hg,_⟩:=h.keep q
 exact Gh i hg hn
theorem JX{σ:StL}(hn:iL σ):fA σ.ai (σ.n:Nat)=σ.n:=by
 have iU:=hn.map;have hb:=hn.big;have:σ.n≤8*(256*aD σ.n):=by unfold aD;omega
 unfold fA;omega
theorem K8(w:World)(F:Nat→Prop)(sb b:Nat)(σ:StL)(K:Nat)(c:Int)(h:cg w F sb b σ K)(hn:iL σ)(hK:K+2≤1000000000000000000):
  Calls prog 185 #[au sb,.int .i64 c] w fun e w'=>e=.returned (.tuple #[.int .i64 (σ.alloc c).2.1,.int .i64 (σ.alloc c).2.2])∧cg w' (grow F w w') sb b (σ.alloc c).1 (K+2)∧ae F w w':=by
 have dG:=fun (W:World) (q:Q w W)=>h.quiet q (TC K 2)
 have aC:=h.lr true;by_cases hz:σ.state true=0
 ·obtain⟨lW,L6⟩:=wU hz
  rw[hz] at aC;by_cases hc:c<1
  ·have hr:σ.alloc c=(σ,0,1):=by unfold StL.alloc;rw[η (by rw[hz];decide),Φ hc]
   rw[hr];have HS:=Hd (dG w (Q.refl w));have aX:=Hd aC;clear dG h aC hr hz hn;go_enter func185,ntmps185;go_wp2_with fail;refine aX.out.mono ?_;rintro e w1 ⟨rfl,rfl⟩;go_wp2_with fail;go_ret2;exact⟨rfl,HS.out.1,HS.out.2⟩
  ·obtain⟨k,rfl⟩:∃k:Nat,c=(k:Nat):=⟨c.toNat,U⟩
   have dZ:=h.hblocks;have iH:=hn.max;have iU:=hn.map;have lS:=fun (W:World)=>yr σ.ai (σ.n:Nat) (k:Nat) W (by rw[iU];unfold aD;omega) U U
   have dQ:qh σ.ai (σ.n:Nat) (k:Nat)=jb (fK σ.ai k σ.n):=by
    unfold qh;rw[η hc,JX hn,PM]
   rw[dQ] at lS;obtain⟨p,cb,tb,bZ⟩:=h.boxed;obtain⟨c0,c1,c2,c3,c4,c5⟩:=Blk.c6 bZ;have hF:=h.lt;cases ku:fK σ.ai k σ.n with
   | none =>
    have hr:σ.alloc (k:Nat)=(σ,0,9):=by unfold StL.alloc;rw[η (by rw[hz];decide),η hc,PM,ku]
    rw[hr];rw[ku] at lS;simp only[jb] at lS;have HS:=Hd dG;have aX:=Hd aC;have iV:=Hd dZ;have aar:=Hd lS;clear dG aC hr hz hn dZ lS dQ ku h hF iU bZ;generalize σ.ai=m1 at *;generalize σ.n=n at *;have KK:=Hd (Q.refl w);go_enter func185,ntmps185;go_wp2_with fail;refine aX.out.mono ?_;rintro e w1 ⟨rfl,rfl⟩;go_wp2_with fail;go_region_held3 (fun w'=>w'.cell? ⟨sb,2,none⟩=some (ah m1))
     (first|exact c2|exact aI δ c2)
     (first
      | (go_at_call 112;with_reducible refine(iV.out _ ω).mono ?_;rintro e w5 ⟨rfl,rfl⟩)
      | (go_at_call 250;with_reducible refine(aar.out _).mono ?_;rintro e w6 ⟨rfl,q6⟩;have s':Q w w6:=Q.trans ω (Q.of q6);clear KK;have KK:=Hd s';clear s' q6))
    all_goals
     have hq:Q w w6:=ω;have HE:=Hd (HS.out w6 hq);clear hq;go_wp2_with fail;go_ret2;exact⟨rfl,HE.out.1,HE.out.2⟩
   | some a =>
    have L8:a+k≤σ.n:=(Es _ _ _ _ ku).2.1;have tX:=fun (W:World) (q:Q w W)=>NC W F sb b σ K a k true (h.keep q) hn lW L8 hK
    have hr:σ.alloc (k:Nat)=if (σ.bh a k true).2≠0 then((σ.bh a k true).1,0,(σ.bh a k true).2) else((σ.bh a k true).1,(a:Int),0):=by unfold StL.alloc;rw[η (by rw[hz];decide),η hc,PM,ku]
    rw[ku] at lS;simp only[jb] at lS;rw[hr];have HF:=Hd hF;have HTN:=Hd tX;have aX:=Hd aC;have iV:=Hd dZ;have aar:=Hd lS;clear dG aC hr hz hn dZ lS dQ ku h hF iU bZ tX L8;generalize σ.bh a k true=st at *;generalize σ.ai=m1 at *;generalize σ.n=n at *;have KK:=Hd (Q.refl w);go_enter func185,ntmps185;go_wp2_with fail;refine aX.out.mono ?_;rintro e w1 ⟨rfl,rfl⟩;go_wp2_with fail;go_region_held3 (fun w'=>w'.cell? ⟨sb,2,none⟩=some (ah m1))
     (first|exact c2|exact aI δ c2)
     (first
      | (go_at_call 112;with_reducible refine(iV.out _ ω).mono ?_;rintro e w5 ⟨rfl,rfl⟩)
      | (go_at_call 250;with_reducible refine(aar.out _).mono ?_;rintro e w6 ⟨rfl,q6⟩;have s':Q w w6:=Q.trans ω (Q.of q6);clear KK;have KK:=Hd s';clear s' q6))
    all_goals
     have hq:Q w w6:=ω;have VE:=Hd (HTN.out w6 hq);have lG:=Hd hq;clear hq c2;go_wp2_with fail;refine VE.out.mono ?_;rintro e w7 ⟨rfl,h7,t7⟩;have H7:=Hd (cg.then' lG.out HF.out h7 t7);clear h7 t7;by_cases hz:st.2=0
     ·have e1:(st.2==0)=true:=NX.2 hz
      have HZ:=Hd hz;clear hz;go_wp2_with fail;go_ret2;try rw[η (by rw[HZ.out];decide)]
      exact⟨rfl,H7.out.1,H7.out.2⟩
     ·have e1:(st.2==0)=false:=Γ.2 hz
      have HZ:=Hd hz;clear hz;go_wp2_with fail;go_ret2;try rw[Φ HZ.out]
      exact⟨rfl,H7.out.1,H7.out.2⟩
 ·have hr:σ.alloc c=(σ,0,σ.state true):=by unfold StL.alloc;rw[Φ hz]
  rw[hr];have e1:(σ.state true==0)=false:=Γ.2 hz;have HS:=Hd aC;have HE:=Hd (dG w (Q.refl w));clear aC hr dG hz hn h;simp only at HS HE ⊢;generalize σ.state true=x at *;go_enter func185,ntmps185;go_wp2_with fail;refine HS.out.mono ?_;rintro e w1 ⟨rfl,rfl⟩;go_wp2_with fail;go_ret2;exact⟨rfl,HE.out.1,HE.out.2⟩
theorem Qu(w:World)(F:Nat→Prop)(sb b:Nat)(σ:StL)(K:Nat)(a c:Int)(h:cg w F sb b σ K)(hn:iL σ)(hz:σ.state true=0)(hb:c<1∨σ.cP a=false∨(σ.n:Int)-a<c):
  Calls prog 209 #[au sb,.int .i64 a,.int .i64 c] w fun e w'=>e=.returned (.int .i64 2)∧w=w':=by
 have aC:=h.lr true;have iH:=hn.max;rw[hz] at aC;have iG:=h.hdata iH a w (Q.refl w);have dZ:=h.hblocks w (Q.refl w);by_cases hc:c<1
 ·have e1:decide (c<1)=true:=NO hc
  have aX:=Hd aC;clear hb h aC hz hn iG dZ;go_enter func209,ntmps209;go_wp2_with fail;refine aX.out.mono ?_;rintro e w1 ⟨rfl,rfl⟩;go_wp2_with fail;go_ret;exact⟨rfl,rfl⟩
 ·have e1:decide (c<1)=false:=Nx hc
  cases gX:σ.cP a with
  | false =>
   rw[gX] at iG;have aX:=Hd aC;have rJ:=Hd iG;clear hb h aC hz hn iG dZ gX;go_enter func209,ntmps209;go_wp2_with fail;refine aX.out.mono ?_;rintro e w1 ⟨rfl,rfl⟩;go_wp2_with fail;refine rJ.out.mono ?_;rintro e w1 ⟨rfl,rfl⟩;go_wp2_with fail;go_ret;exact⟨rfl,rfl⟩
  | true =>
   have ay:(σ.n:Int)-a<c:=by rcases hb with hb|hb|hb;exact absurd hb hc;rw[gX] at hb;exact absurd hb Z;exact hb
   have tT:=gX;unfold StL.cP at tT;simp only[Up] at tT;rw[gX] at iG;obtain⟨j,rfl⟩:∃j:Nat,a=(j:Nat):=⟨a.toNat,U⟩;have hw:IntKind.i64.wrap ((σ.n:Int)-(j:Int))=(σ.n:Int)-(j:Int):=IntWalk.i64_in _ U;have e2:decide ((σ.n:Int)-(j:Int)<c)=true:=NO ay;have aX:=Hd aC;have rJ:=Hd iG;have iV:=Hd dZ;clear hb h aC hz hn iG dZ gX;generalize σ.n=n at *;go_enter func209,ntmps209;go_wp2_with fail;refine aX.out.mono ?_;rintro e w1 ⟨rfl,rfl⟩;go_wp2_with fail;refine rJ.out.mono ?_;rintro e w1 ⟨rfl,rfl⟩;go_wp2_with fail;refine iV.out.mono ?_;rintro e w1 ⟨rfl,rfl⟩;go_wp2_with fail;go_ret;exact⟨rfl,rfl⟩
theorem Qv(w:World)(F:Nat→Prop)(sb b:Nat)(σ:StL)(K:Nat)(a c:Int)(h:cg w F sb b σ K)(hn:iL σ)(hK:K+2≤1000000000000000000):
  Calls prog 209 #[au sb,.int .i64 a,.int .i64 c] w fun e w'=>e=.returned (.int .i64 (σ.release a c).2)∧cg w' (grow F w w') sb b (σ.release a c).1 (K+2)∧ae F w w':=by
 have dG:=fun (W:World) (q:Q w W)=>h.quiet q (TC K 2)
 have aC:=h.lr true;by_cases hz:σ.state true=0
 ·obtain⟨lW,L6⟩:=wU hz
  by_cases hb:c<1∨σ.cP a=false∨(σ.n:Int)-a<c
  ·have hr:σ.release a c=(σ,2):=by unfold StL.release;rw[η (by rw[hz];decide),Φ hb]
   rw[hr];refine(Qu w F sb b σ K a c h hn hz hb).mono ?_;rintro e w1 ⟨rfl,rfl⟩;exact⟨rfl,dG w (Q.refl w)⟩
  ·have hr:σ.release a c=if ∃i,i<c.toNat∧bit σ.ai (a.toNat+i)=false then(σ,10) else σ.bh a.toNat c.toNat false:=by unfold StL.release;rw[η (by rw[hz];decide),η hb]
   simp only[aek] at hb;obtain⟨h1,h2,h3⟩:=hb;have h2:σ.cP a=true:=by simpa using h2
   have tT:=h2;unfold StL.cP at tT;simp only[Up] at tT;have iH:=hn.max;have iU:=hn.map;have iG:=h.hdata iH a w (Q.refl w);have dZ:=h.hblocks w (Q.refl w);rw[hz] at aC;rw[h2] at iG;obtain⟨j,rfl⟩:∃j:Nat,a=(j:Nat):=⟨a.toNat,U⟩;obtain⟨k,rfl⟩:∃k:Nat,c=(k:Nat):=⟨c.toNat,U⟩;have OC:j+k≤σ.n:=U;have hw:IntKind.i64.wrap ((σ.n:Int)-(j:Int))=(σ.n:Int)-(j:Int):=IntWalk.i64_in _ U;have e1:decide (((k:Nat):Int)<1)=false:=Nx h1;have e2:decide ((σ.n:Int)-(j:Int)<((k:Nat):Int))=false:=Nx h3;rw[PM,PM] at hr;obtain⟨p,cb,tb,bZ⟩:=h.boxed;obtain⟨c0,c1,c2,c3,c4,c5⟩:=Blk.c6 bZ;have rQ:=fun (i:Nat) (hi:i<k)=>MN σ.ai (((j+i:Nat):Nat):Int) w (by rw[iU];unfold aD;omega) U
   have tX:=NC w F sb b σ K j k false h hn lW OC hK;have Fv:(∃i,i<k∧bit σ.ai (j+i)=false)→σ.release (j:Nat) (k:Nat)=(σ,10):=fun hx=>by rw[hr,Φ hx]
   have pW:(¬∃i,i<k∧bit σ.ai (j+i)=false)→σ.release (j:Nat) (k:Nat)=σ.bh j k false:=fun hx=>by rw[hr,η hx]
   have HR1:=Hd Fv;have Ct:=Hd pW;clear Fv pW;generalize σ.release (j:Nat) (k:Nat)=r at *;have aX:=Hd aC;have rJ:=Hd iG;have iV:=Hd dZ;have Fw:=Hd rQ;have HTN:=Hd tX;have HS:=Hd (dG w (Q.refl w));clear dG aC hr hz hn dZ iU bZ tX h3 h2 rQ iG h;generalize σ.bh j k false=st at *;generalize σ.ai=m1 at *;generalize σ.n=n at *;go_enter func209,ntmps209;go_wp2_with fail;refine aX.out.mono ?_;rintro e w1 ⟨rfl,rfl⟩;go_wp2_with fail;refine rJ.out.mono ?_;rintro e w1 ⟨rfl,rfl⟩;go_wp2_with fail;refine iV.out.mono ?_;rintro e w1 ⟨rfl,rfl⟩;go_wp2_with fail;go_loopw [31] (fun v wr=>∃i:Nat,v=.int .i64 (i:Nat)∧i≤k∧wr=w∧Hid (∀x,x<i→bit m1 (j+x)=true)) (fun v _=>k-(intOf v).toNat)
   case atStart=>exact⟨0,rfl,MD _,rfl,Hd (fun x hx=>U)⟩
   case round =>
    obtain⟨i,rfl,hi,rfl,HB⟩:=hrel;by_cases ay:i<k
    ·have bq:(i:Int)<(k:Int):=U
     have hg:=Fw.out i ay;rw[gQ] at hg;have Cy:(((j+i:Nat):Nat):Int)=(j:Int)+(i:Int):=by push_cast;rfl
     rw[Cy] at hg;have HG:=Hd hg;clear hg Cy;cases uP:bit m1 (j+i) with
     | true =>
      have gU:∀x,x<i+1→bit m1 (j+x)=true:=fun x hx=>by
       by_cases Bf:x=i
       ·subst Bf;exact uP
       ·exact HB.out x U
      have qB:=Hd gU;have hg:=HG.out;rw[uP] at hg;have jU:=Hd hg;clear hg gU uP HG;go_wp2_with fail;refine jU.out.mono ?_;rintro e w1 ⟨rfl,rfl⟩;go_wp2_with fail;go_roundw;case rel=>exact⟨i+1,by go_num,U,trivial,qB⟩
      case measure=>simp[intOf];omega
     | false =>
      have hg:=HG.out;rw[uP] at hg;have jU:=Hd hg;have HX:=Hd (HR1.out ⟨i,ay,uP⟩);clear hg uP HG;go_wp2_with fail;refine jU.out.mono ?_;rintro e w1 ⟨rfl,rfl⟩;go_wp2_with fail;go_ret;rw[HX.out];exact⟨rfl,HS.out.1,HS.out.2⟩
    ·have bq:¬(i:Int)<(k:Int):=U
     obtain rfl:i=k:=U;have HX:=Hd (Ct.out <| by
      rintro⟨x,hx,hb⟩;rw[HB.out x hx] at hb;exact absurd hb Z)
     go_wp2_with fail;refine HTN.out.mono ?_;rintro e w3 ⟨rfl,h3,t3⟩;have H3:=Hd (And.intro h3 t3);clear h3 t3;go_wp2_with fail;go_ret;rw[HX.out];exact⟨rfl,H3.out.1,H3.out.2⟩
 ·have hr:σ.release a c=(σ,σ.state true):=by unfold StL.release;rw[Φ hz]
  rw[hr];have e1:(σ.state true==0)=false:=Γ.2 hz;have HS:=Hd aC;have HE:=Hd (dG w (Q.refl w));clear aC hr dG hz hn h;simp only at HS HE ⊢;generalize σ.state true=x at *;go_enter func209,ntmps209;go_wp2_with fail;refine HS.out.mono ?_;rintro e w1 ⟨rfl,rfl⟩;go_wp2_with fail;go_ret;exact⟨rfl,HE.out.1,HE.out.2⟩
end
section
open Go.RowKit
variable {w w':World} {FJ FC F:Nat→Prop} {sb b p cb tb most clock clock':Nat} {ms ms':Int} {mb:Nat} {m m':bU} {ti ti':List (Nat×Value)} {σ σ':StL} {K:Nat}
structure StU (w:World) (FJ FC:Nat→Prop) (sb b p cb tb most clock:Nat) (ms:Int) (mb:Nat) (m:bU) (ti:List (Nat×Value)) (σ:StL):Prop where
 box:Blk w sb 172 (nI p cb tb σ)
 tm:de w tb ti
 jr:cF w FJ p b σ.j
 ca:cj w FC cb p most clock ms mb m
 apart:∀k,FJ k→¬FC k
 sF:¬FJ sb∧¬FC sb
 tF:¬FJ tb∧¬FC tb
 ok:σ.dead=false→cN σ.n most clock σ.tx σ.j.d.get m
theorem StG.loose(h:StG w FJ FC sb b p cb tb most clock ms mb m ti σ):StU w FJ FC sb b p cb tb most clock ms mb m ti σ:=⟨h.box,h.tm,h.jr,h.ca,h.apart,h.sF,h.tF,h.ok⟩
def eM(w:World)(F:Nat→Prop)(sb b:Nat)(σ:StL)(K:Nat):Prop :=
 ∃FJ FC p cb tb most clock ms mb m ti,StU w FJ FC sb b p cb tb most clock ms mb m ti σ∧(∀k,FJ k∨FC k∨k=sb∨k=tb→F k)∧(∀k,F k→k<w.heap.size)∧clock≤K
theorem cg.loose(h:cg w F sb b σ K):eM w F sb b σ K:=by
 obtain⟨FJ,FC,p,cb,tb,most,clock,ms,mb,m,ti,hg,hF,ay,bL⟩:=h;exact⟨_,_,_,_,_,_,_,_,_,_,_,hg.loose,hF,ay,bL⟩
theorem StU.keep(h:StU w FJ FC sb b p cb tb most clock ms mb m ti σ)(q:Q w w'):StU w' FJ FC sb b p cb tb most clock ms mb m ti σ :=
 ⟨h.box.stays q,h.tm.same (q.block _ h.tm.lt),h.jr.keep q,h.ca.keep q,h.apart,h.sF,h.tF,h.ok⟩
theorem eM.keep(h:eM w F sb b σ K)(q:Q w w'):eM w' F sb b σ K:=by
 obtain⟨FJ,FC,p,cb,tb,most,clock,ms,mb,m,ti,hg,hF,ay,bL⟩:=h;exact⟨_,_,_,_,_,_,_,_,_,_,_,hg.keep q,hF,fun k hk=>Ψ (ay k hk) q.size,bL⟩
theorem eM.lt(h:eM w F sb b σ K):∀k,F k→k<w.heap.size:=by
 obtain⟨FJ,FC,p,cb,tb,most,clock,ms,mb,m,ti,hg,hF,ay,bL⟩:=h;exact ay
theorem eM.mono{G:Nat→Prop}(h:eM w F sb b σ K)(k:∀i,F i→G i)(hl:∀i,G i→i<w.heap.size):eM w G sb b σ K:=by
 obtain⟨FJ,FC,p,cb,tb,most,clock,ms,mb,m,ti,hg,hF,ay,bL⟩:=h;exact⟨_,_,_,_,_,_,_,_,_,_,_,hg,fun i hi=>k i (hF i hi),hl,bL⟩
def StL.ia(σ:StL):StL:={ σ with tx:=[],ai:=σ.was }
theorem ND(w:World)(F:Nat→Prop)(sb b:Nat)(σ:StL)(K:Nat)(h:eM w F sb b σ K):
  Calls prog 178 #[au sb] w fun e w'=>e=.returned (.tuple #[])∧eM w' F sb b σ.ia K∧ae F w w':=by
 obtain⟨FJ,FC,p,cb,tb,most,clock,ms,mb,m,ti,hg,hF,ay,bL⟩:=h;have Ae:(m.map (·.1)).Nodup:=by
  have:=hg.ca.map.nodup;have e:(mapOf m).map (·.1)=m.map (·.1):=by simp[mapOf]
  rwa [e] at this
 have nQ:=AC w FC cb p most clock ms mb m hg.ca Ae;obtain⟨c0,c1,c2,c3,c4,c5⟩:=Blk.c6 hg.box;have HD:=Hd nQ;have HG:=Hd hg;have HF:=Hd hF;have iI:=Hd ay;clear nQ hg hF ay;go_enter func178,ntmps178;go_wp2_with fail;refine HD.out.mono ?_;rintro e w1 ⟨rfl,h1,t1⟩;have hb1:Blk w1 sb 172 (nI p cb tb σ):=t1.blk HG.out.box HG.out.sF.2;obtain⟨d0,d1,d2,d3,d4,d5⟩:=Blk.c6 hb1;have f2:=hb1.frozen 2;have zG:ae (fun k=>k=sb) w1 (w1.setCell ⟨sb,2,none⟩ (ah σ.was)):=ae.setCell (a:=⟨sb,2,none⟩) (ae.refl (fun k=>k=sb) w1) (.inl rfl) _
 have kF:de w1 tb ti:=HG.out.tm.same (t1.block _ HG.out.tm.lt HG.out.tF.2);have aU:sb≠tb:=rX HG.out.box HG.out.tm;have hend:eM (w1.setCell ⟨sb,2,none⟩ (ah σ.was)) F sb b σ.ia K:=by
  refine⟨FJ,FC,p,cb,tb,most,clock,ms,mb,_,ti,⟨hb1.set 2 (ah σ.was),kF.same (zG.block _ kF.lt aU.symm),(HG.out.jr.beside t1 HG.out.apart).beside zG (fun k hk e=>HG.out.sF.1 (e▸hk)),h1.beside zG (fun k hk e=>HG.out.sF.2 (e▸hk)),HG.out.apart,HG.out.sF,HG.out.tF,fun hd=>(HG.out.ok hd).dropped⟩,HF.out,fun k hk=>?_,bL⟩
  have:=iI.out k hk;have:=t1.size;have:=zG.size;omega
 have yg:ae F w (w1.setCell ⟨sb,2,none⟩ (ah σ.was)):=(t1.mono (fun k hk=>HF.out k (.inr (.inl hk)))).trans (zG.mono (fun k hk=>HF.out k (.inr (.inr (.inl hk)))))
 have HE:=Hd hend;have HT:=Hd yg;clear hend yg hb1 zG kF h1 t1;go_wp2_with fail;go_end0;exact⟨rfl,HE.out,HT.out⟩
theorem Ez(w:World)(F:Nat→Prop)(sb b:Nat)(σ:StL)(K:Nat)(h:eM w F sb b σ K)(mO:σ.tx=[]):
  Calls prog 179 #[au sb] w fun e w'=>e=.returned (.tuple #[])∧cg w' F sb b σ.close K∧ae F w w':=by
 obtain⟨FJ,FC,p,cb,tb,most,clock,ms,mb,m,ti,hg,hF,ay,bL⟩:=h;obtain⟨c0,c1,c2,c3,c4,c5⟩:=Blk.c6 hg.box;have f4:=hg.box.frozen 4;have aU:sb≠tb:=rX hg.box hg.tm;obtain⟨w1,eO⟩:∃w1,w1=w.setCell ⟨sb,4,none⟩ (.bool false):=⟨_,rfl⟩;have t1:ae (fun k=>k=sb) w w1:=by rw[eO];exact ae.setCell (a:=⟨sb,4,none⟩) (ae.refl (fun k=>k=sb) w) (.inl rfl) _
 have hb1:Blk w1 sb 172 (nI p cb tb { σ with open_:=false }):=by rw[eO];exact hg.box.set 4 _
 have kF:de w1 tb ti:=hg.tm.same (t1.block _ hg.tm.lt aU.symm);have d5:=hb1.cell 5 (.map (some tb)) rfl;have HG:=Hd hg;have HF:=Hd hF;have iI:=Hd ay;have HM:=Hd kF;have HB:=Hd hb1;have T1:=Hd t1;clear hg hF ay kF hb1 t1;go_enter func179,ntmps179;go_upto_region 1 with fail;rw[←eO];clear eO;obtain⟨w2,nU,lD,jM,aW⟩:=Px (P:=prog) HM.out 170 3 3 0 underlying170;have t2:=cj.eL jM;have hend:cg w2 F sb b σ.close K:=by
  refine⟨FJ,FC,p,cb,tb,most,clock,ms,mb,m,[],⟨t2.blk HB.out aU,lD,(HG.out.jr.beside T1.out (fun k hk e=>HG.out.sF.1 (e▸hk))).beside t2 (fun k hk e=>HG.out.tF.1 (e▸hk)),(HG.out.ca.beside T1.out (fun k hk e=>HG.out.sF.2 (e▸hk))).beside t2 (fun k hk e=>HG.out.tF.2 (e▸hk)),HG.out.apart,HG.out.sF,HG.out.tF,fun hd=>?_,fun k=>Iff.rfl,fun x hx=>by simp at hx⟩,HF.out,fun k hk=>?_,bL⟩
  ·have:=HG.out.ok hd
   rw[mO] at this;exact this
  ·have:=iI.out k hk;have:=T1.out.size;have:=t2.size;omega
 have yg:ae F w w2:=(T1.out.mono (fun k hk=>HF.out k (.inr (.inr (.inl hk))))).trans (t2.mono (fun k hk=>HF.out k (.inr (.inr (.inr hk)))))
 have HE:=Hd hend;have HT:=Hd yg;clear hend yg t2 lD jM aW;go_wp2_with fail;go_end0;exact⟨rfl,HE.out,HT.out⟩
theorem WT(w:World)(F:Nat→Prop)(sb b:Nat)(σ:StL)(K:Nat)(h:cg w F sb b σ K):
  Calls prog 95 #[au sb] w fun e w'=>e=.returned (.tuple #[])∧cg w' F sb b σ.abort K∧ae F w w':=by
 obtain⟨p,cb,tb,bZ⟩:=h.boxed;obtain⟨c0,c1,c2,c3,c4,c5⟩:=Blk.c6 bZ;cases ho:σ.open_ with
 | false =>
  have hr:σ.abort=σ:=by unfold StL.abort;rw[ho];rfl
  rw[hr];rw[ho] at c4;have H:=Hd h;clear h bZ hr ho;go_enter func95,ntmps95;go_wp2_with fail;go_end0;exact⟨rfl,H.out,ae.refl _ _⟩
 | true =>
  have hr:σ.abort=σ.ia.close:=by unfold StL.abort;rw[ho];rfl
  rw[hr];rw[ho] at c4;have nV:=ND w F sb b σ K h.loose;have H:=Hd nV;clear h bZ hr nV ho;go_enter func95,ntmps95;go_wp2_with fail;refine H.out.mono ?_;rintro e w1 ⟨rfl,h1,t1⟩;have bL:=Ez w1 F sb b σ.ia K h1 rfl;have HC:=Hd bL;have T1:=Hd t1;clear bL t1 h1;go_wp2_with fail;refine HC.out.mono ?_;rintro e w2 ⟨rfl,h2,t2⟩;have H2:=Hd h2;have T2:=Hd t2;clear h2 t2;go_wp2_with fail;go_end0;exact⟨rfl,H2.out,T1.out.trans T2.out⟩
end
section
open Go.RowKit
theorem Be(l:List WrL):∀u∈aN l,u.oneCell'=true:=by
 intro u hu;obtain⟨d,_,hd⟩:=PT.1 hu;simp[mX] at hd;rcases hd with rfl|rfl<;>simp[Value.oneCell']
theorem QE(v:Value)(l:List WrL)(w:World)(hv:Sl w v l.length 2 (aN l))(hn:l.length≤1000000):
  Calls prog 175 #[v] w fun e w'=>∃v',e=.returned v'∧w'.ownsRow w.heap.size 116 2 v' l.length (aN l)∧Q w w':=by
 obtain⟨i0,hi,bY,bB,aW⟩:=info_parts nC;obtain⟨xL,a,cap,rfl,aP⟩:=hv;have kV:(aN l).length=l.length*2:=xL;have yJ:=Be l;cases a with
 | none =>
  have h0:l.length=0:=by
   by_cases h:l.length=0
   ·exact h
   ·obtain⟨b,off,e,_⟩:=aP U
    cases e
  obtain rfl:l=[]:=OS h0;clear aP xL kV yJ;go_enter func175,ntmps175;go_wp2_with fail;rw[Lib.run_eql_slice_nil _ _ _ _ _ _ _ _ underlying66];go_wp2_with fail;go_ret;exact⟨_,rfl,World.ownsRow_nil _ _ _ _,Q.refl _⟩
 | some ad =>
  have kR:∀j u,(aN l)[j]?=some u→(w.alloc (.cells #[] 116)).cell? (ad.add j)=some u:=by
   intro j u hu;have zD:j<(aN l).length:=(Pi.1 hu).1;obtain⟨b,off,e,hc⟩:=aP U;cases e;rw[show(⟨b,off,none⟩:Addr).add j=⟨b,off+j,none⟩ by unfold Addr.add;split<;>simp_all]
   exact aj (Q.alloc _ _) (hc j u hu)
  have aF:(w.alloc (.cells #[] 116)).ownsRow w.heap.size 116 2 (.slice (some ⟨w.heap.size,0,none⟩) 0 0) 0 []:=⟨rfl,.inr ⟨w.heap.size,0,#[],rfl,Ω _,heap_alloc_new _ _,κ,by unfold maxLen;omega,rfl,rfl⟩⟩
  have DY:0+l.length≤maxLen:=by unfold maxLen;omega
  have nY:(0+l.length)*24≤140737488355328:=U;have fP:w.heap.size≤(w.alloc (.cells #[] 116)).heap.size:=κ;generalize aN l=xs at *;clear aP;go_enter func175,ntmps175;go_wp2_with fail;rw[Lib.run_eql_slice_nil _ _ _ _ _ _ _ _ underlying66];go_wp2_with (at_builtin;go_must (refine wpList_append_own (w.alloc (.cells #[] 116)) ρ _ _ 66 ρ w.heap.size 116 i0 (.agg #[.int .i64 0,ah []]) 2 24 underlying66 hi bY bB aW rfl Z _ 0 [] ρ aF ad l.length cap xs ρ kV kR yJ DY nY fP ?_))
  intro v' w' ho hg _;have hb:Below w.heap.size w w':=((Below.refl w.heap.size w).alloc (Ω _) _).grown hg fP (fun k hk=>by simp[Value.ownBlock] at hk;omega)
  have HO:=Hd ho;have HB:=Hd hb;clear ho hb hg;go_wp2_with fail;go_ret;exact⟨v',rfl,HO.out,HB.out⟩
theorem PL(w:World)(F:Nat→Prop)(sb b eb bs:Nat)(σ:StL)(K:Nat)(err:Int)(h:eM w F sb b σ K)(he:Boxed w eb 31 (.int .i64 err))(hb:Boxed w bs 88 (au sb))(heF:¬F eb)(Zu:¬F bs)(mO:err=0→σ.tx=[]):
  CallsD prog 177 #[au eb,au bs] .returning w fun e u' w'=>u'=.returning∧(e=.returned (.tuple #[])∧cg w' F sb b (if err=0 then σ.close else σ.ia.close) K∧ae F w w'):=by
 have e0:=he.cell;have b0:=hb.cell;by_cases hz:err=0
 ·subst hz
  have bL:=Ez w F sb b σ K h (mO rfl);rw[Φ rfl];have HC:=Hd bL;clear bL h mO he hb heF Zu;go_enter_d func177,ntmps177;go_wp2_with fail;refine HC.out.mono ?_;rintro e w2 ⟨rfl,h2,t2⟩;have H2:=Hd h2;have T2:=Hd t2;clear h2 t2;go_wp2_with fail;go_end0;exact⟨rfl,H2.out,T2.out⟩
 ·have nV:=ND w F sb b σ K h
  rw[η hz];have e1:(err==0)=false:=Γ.2 hz;have HU:=Hd nV;have HB:=Hd hb;clear nV h mO he hz hb;go_enter_d func177,ntmps177;go_wp2_with fail;refine HU.out.mono ?_;rintro e w1 ⟨rfl,h1,t1⟩;have b1:=t1.cell b0 Zu;have bL:=Ez w1 F sb b σ.ia K h1 rfl;have HC:=Hd bL;have T1:=Hd t1;clear bL t1 h1;go_wp2_with fail;refine HC.out.mono ?_;rintro e w2 ⟨rfl,h2,t2⟩;have H2:=Hd h2;have T2:=Hd t2;clear h2 t2;go_wp2_with fail;go_end0;exact⟨rfl,H2.out,T1.out.trans T2.out⟩
theorem eM.ofU{w:World}{FJ FC F:Nat→Prop}{sb b p cb tb most clock:Nat}{ms:Int}{mb:Nat}{m:bU}{ti:List (Nat×Value)}{σ:StL}{K:Nat}(h:StU w FJ FC sb b p cb tb most clock ms mb m ti σ)(hF:∀k,FJ k∨FC k∨k=sb∨k=tb→F k)(hl:∀k,F k→k<w.heap.size)(hK:clock≤K):eM w F sb b σ K :=
 ⟨_,_,_,_,_,_,_,_,_,_,_,h,hF,hl,hK⟩
theorem Dj(w w5:World)(F F5:Nat→Prop)(sb b:Nat)(σ':StL)(K:Nat)(err:Int)(tmps:Array Value)(ht:tmps.getD 2 undef=.pointer (some ⟨w.heap.size+1,0,none⟩))(h5:eM w5 F5 sb b σ' K)(he:Boxed w5 (w.heap.size+1) 31 (.int .i64 err))(hb:Boxed w5 w.heap.size 88 (au sb))
  (SQ:∀k,F5 k→F k∨(w.heap.size+2≤k∧k<w5.heap.size)) (hF:∀k,F k→k<w.heap.size) (t:ae F w w5) (mO:err=0→σ'.tx=[]) :
  Leaves prog Tryz.f94 tmps (fun e w'=>e=.returned (.int .i64 err)∧cg w' (grow F w w') sb b (if err=0 then σ'.close else σ'.ia.close) K∧ae F w w')
   [{ target:=Target.fn (Fn.func 177) #[.pointer (some ⟨w.heap.size+1,0,none⟩),.pointer (some ⟨w.heap.size,0,none⟩)],args:=#[] }] .returning w5:=by
 have n1:¬F5 (w.heap.size+1):=fun e=>by rcases SQ _ e with e|e;have:=hF _ e;omega;omega
 have n2:¬F5 w.heap.size:=fun e=>by rcases SQ _ e with e|e;have:=hF _ e;omega;omega
 refine leaves_cons (f:=177) (args:=#[au (w.heap.size+1),au w.heap.size]) κ (by simp[go_sem]) ?_
 refine(PL w5 F5 sb b _ _ σ' K err h5 he hb n1 n2 mO).mono ?_;rintro e u' w' ⟨rfl,rfl,h,t'⟩;have OB:Boxed w' (w.heap.size+1) 31 (.int .i64 err):=(t'.block _ (aJ he) n1).trans he;have tt:ae F w w':=t.step (t'.mono (fun k hk=>(SQ k hk).elim .inl (fun hk=>.inr ⟨U,hk.2⟩)))
 exact⟨.int .i64 err,vE rfl _ _ ⟨w.heap.size+1,0,none⟩ _ ht (Ar _ _ err OB.cell),rfl,h.mono (fun k hk=>(SQ k hk).elim .inl (fun hk=>.inr ⟨U,by have:=t'.size;omega⟩)) (fun k hk=>hk.elim (fun hk=>Ψ (hF k hk) tt.size) (fun hk=>hk.2)) (Ω _),tt⟩
theorem UQ(w:World)(F:Nat→Prop)(sb b:Nat)(σ:StL)(K:Nat)(h:cg w F sb b σ K)(hn:iL σ)(hp:σ.state true=0→σ.tx≠[]→KT σ):
  Calls prog 94 #[au sb] w fun e w'=>e=.returned (.int .i64 σ.bj.2)∧cg w' (grow F w w') sb b σ.bj.1 K∧ae F w w':=by
 obtain⟨wa,dO⟩:∃wa,wa=(w.alloc (.cells #[au sb] 88)).alloc (.cells #[.int .i64 0] 31):=⟨_,rfl⟩;have hq:Q w wa:=by rw[dO];exact(Q.alloc _ _).trans (Q.alloc _ _)
 have bP:wa.heap.size=w.heap.size+2:=by rw[dO];simp
 have eH:Boxed wa w.heap.size 88 (au sb):=by rw[dO];exact(Boxed.new w _ _).alloc _
 have hb1:Boxed wa (w.heap.size+1) 31 (.int .i64 0):=by
  rw[dO];have:=Boxed.new (w.alloc (.cells #[au sb] 88)) 31 (.int .i64 0);rwa [World.size_alloc] at this
 have hF:=h.lt;have hh:=h.keep hq;have d0:=eH.cell;have d1:=hb1.cell;have e1:=hb1.frozen;have aC:=hh.lr true;have hmf:∀(fn:Fn) (first cap:Array Value) (w:World),(Instr.makeFunc fn first cap).run prog w=.ok (.func fn first cap) w:=fun _ _ _ _=>rfl
 by_cases hz:σ.state true=0
 ·obtain⟨lW,L6⟩:=wU hz
  rw[hz] at aC;have uU:=bP;obtain⟨FJ,FC,p,cb,tb,most,clock,ms,mb,m,ti,hg,hFF,ay,bL⟩:=hh;obtain⟨c0,c1,c2,c3,c4,c5⟩:=Blk.c6 hg.box;obtain⟨n1,n2,n3,n4,n5,n6⟩:=hn.num lW;have bQ:=hg.ok lW;have hdi:=tg wa FC cb p σ.n most clock ms mb m σ.tx σ.j.d.get hg.ca bQ;have Zv:=hn;have mR:σ.tx.length≤48:=n5;have HDI:=Hd hdi;have aX:=Hd aC;have HG:=Hd hg;have og:=Hd hFF;have HF:=Hd hF;have HQ:=Hd hq;have wG:=Hd eH;have Bl:=Hd hb1;have HP:=Hd (hp hz);have pq:=Hd bQ;have HZ:=Hd hz;have HJN:=Hd (And.intro n1 (And.intro n2 (And.intro n3 n4)));have mD:=Hd bP;clear hdi aC hg hFF hF hq eH hb1 hp bQ hz n1 n2 n3 n4 n6 hn bP ay uU;go_enter_defers func94,ntmps94;go_upto_region 1 with fail;rw[←dO];clear dO;go_wp2_with fail;refine aX.out.mono ?_;rintro e w1 ⟨rfl,rfl⟩;go_wp2_with fail;refine HDI.out.mono ?_;rintro e w2 ⟨v2,rfl,DX,q2⟩;have He:=QE v2 σ.tx w2 (Sl.cy DX) U;have Zg:=Hd He;have Q2:=Hd q2;clear He q2 DX;go_wp2_with fail;refine Zg.out.mono ?_;rintro e w3 ⟨v3,rfl,Zw,q3⟩;have q3':Q wa w3:=Q2.out.trans q3;have OL:wa.heap.size≤w2.heap.size:=Q2.out.size;obtain⟨a3,cap3,rfl,-⟩:=aY Zw;have b0:=wG.out.cell;have b1:=Bl.out.cell;have b2:=Bl.out.frozen;have x0:=aI q3' d0;have x1:=aI q3' d1;have HO3:=Hd Zw;have fu:=Hd q3';have aay:Boxed w3 (w.heap.size+1) 31 (.int .i64 0):=(q3'.block _ (aJ Bl.out)).trans Bl.out;have adC:Boxed w3 w.heap.size 88 (au sb):=(q3'.block _ (aJ wG.out)).trans wG.out;have f1:=aay.frozen;have nu:=HG.out.keep q3';obtain⟨g0,g1,g2,g3,g4,g5⟩:=Blk.c6 nu.box;have YC:=Hd aay;have YD:=Hd adC;have gF:=Hd nu;clear Zw q3 q3' aay adC nu c0 c1 c2 c3 c4 c5 b0 b1 b2 d0 d1 e1;by_cases mO:σ.tx=[]
  ·have hlen:¬(0:Int)<(σ.tx.length:Int):=by rw[mO];decide
   have SS:=Nt w3 FC cb p most clock ms mb m gF.out.ca pq.out.keys pq.out.ptrs;have p8:=Hd SS;have HTX:=Hd mO;clear SS mO;go_wp2_with fail;refine p8.out.mono ?_;rintro e w4 ⟨rfl,h4,t4⟩;have qM:¬FC (w.heap.size+1):=fun e=>by have:=HF.out _ (og.out _ (.inr (.inl e)));omega
   have y1:=t4.cell x1 qM;have GZ:Boxed w4 (w.heap.size+1) 31 (.int .i64 0):=(t4.block _ (aJ YC.out) qM).trans YC.out;have f2:=GZ.frozen;have H4:=Hd h4;have T4:=Hd t4;have aiq:=Hd GZ;clear h4 t4 GZ;go_wp2_with fail;have rO:σ.bj=(({ σ with tx:=[] }:StL).close,0):=by unfold StL.bj;rw[η (by rw[HZ.out];decide),Φ HTX.out];rfl
   rw[rO];have SV:=aiq.out.set (.int .i64 0);have t5:ae (fun k=>k=w.heap.size+1) w4 (w4.setCell ⟨w.heap.size+1,0,none⟩ (.int .i64 0)):=ae.setCell (a:=⟨w.heap.size+1,0,none⟩) (ae.refl (fun k=>k=w.heap.size+1) w4) (.inl rfl) _
   have aU:w.heap.size≠w.heap.size+1:=U;have xQ:¬FC w.heap.size:=fun e=>by have:=HF.out _ (og.out _ (.inr (.inl e)));omega
   have VR:Boxed (w4.setCell ⟨w.heap.size+1,0,none⟩ (.int .i64 0)) w.heap.size 88 (au sb):=by
    have z0:Boxed w4 w.heap.size 88 (au sb):=(T4.out.block _ (aJ YD.out) xQ).trans YD.out;exact(t5.block _ (aJ z0) aU).trans z0
   have hge:∀k,F k→k≠w.heap.size+1:=fun k hk e=>by have:=HF.out k hk;omega
   have hU:StU (w4.setCell ⟨w.heap.size+1,0,none⟩ (.int .i64 0)) FJ FC sb b p cb tb most clock ms mb _ ti { σ with tx:=[] } :=
    ⟨t5.blk (T4.out.blk gF.out.box gF.out.sF.2) (hge _ (og.out _ (.inr (.inr (.inl rfl))))),(gF.out.tm.same (T4.out.block _ gF.out.tm.lt gF.out.tF.2)).same (t5.block _ (Ψ gF.out.tm.lt T4.out.size) (hge _ (og.out _ (.inr (.inr (.inr rfl)))))),(gF.out.jr.beside T4.out gF.out.apart).beside t5 (fun k hk=>hge k (og.out k (.inl hk))),H4.out.beside t5 (fun k hk=>hge k (og.out k (.inr (.inl hk)))),gF.out.apart,gF.out.sF,gF.out.tF,fun _=>pq.out.cleaned _ (fun i hi=>by rw[HTX.out];rfl)⟩
   have tq:ae F w w4:=(ae.br (HQ.out.trans fu.out)).trans (T4.out.mono (fun k hk=>og.out k (.inr (.inl hk))))
   have tz:ae F w (w4.setCell ⟨w.heap.size+1,0,none⟩ (.int .i64 0)):=tq.setCell (.inr κ) _;exact Dj w _ F F sb b { σ with tx:=[] } K 0 _ rfl (eM.ofU hU og.out (fun k hk=>Ψ (HF.out k hk) tz.size) bL) SV VR (fun k hk=>.inl hk) HF.out tz (fun _=>rfl)
  ·have hlen:(0:Int)<(σ.tx.length:Int):=by have:=Wc.2 mO;omega
   obtain⟨jn,ju,jh,jt⟩:=HJN.out;have nN:=HP.out mO;have aW:w.heap.size+2≤w2.heap.size:=by have:=mD.out;omega
   have aaz:∀k,FJ k→k<w.heap.size:=fun k hk=>HF.out k (og.out k (.inl hk))
   have adD:∀k,FC k→k<w.heap.size:=fun k hk=>HF.out k (og.out k (.inr (.inl hk)))
   have dO:eC w3 FJ (.slice a3 σ.tx.length cap3) σ.tx:=⟨SlO.owned HO3.out (fun g hg e=>by have:=aaz g e;omega),fun x hx=>by have:=jt x hx;have:=Zv.max;exact⟨U,U⟩⟩
   have yt:=I6 w3 FJ p b σ.j _ σ.tx gF.out.jr jn ⟨U,n5,fun x hx=>by have h1:=jt x hx;have:=Zv.max;exact⟨U,h1.2.2⟩⟩ (fun x hx=>by have:=jt x hx;rw[jh];exact⟨U,this.2.1⟩) dO ju
   have rO:σ.bj=if (σ.j.bj σ.tx).2=0 then(({ σ with j:=(σ.j.bj σ.tx).1,tx:=[] }:StL).close,0) else(({ σ with j:=(σ.j.bj σ.tx).1 }:StL).ia.close,(σ.j.bj σ.tx).2):=by unfold StL.bj;rw[η (by rw[HZ.out];decide),η mO];rfl
   have rQ:=nN.get;have adE:=nN.dead;have fT:=JL.fw σ.j σ.tx;have Jz:=Hd rO;have VT:=Hd yt;have Fw:=Hd rQ;have HDD:=Hd adE;have uN:=Hd fT;have Mi:=Hd (And.intro aaz adD);clear yt rQ adE fT nN rO dO jn ju jh jt mO n5 aaz adD;generalize σ.j.bj σ.tx=jc at *;obtain⟨j',err⟩:=jc;simp only at VT Fw HDD uN Jz;go_wp2_with fail;refine VT.out.mono ?_;rintro e w4 ⟨rfl,h4,t4⟩;have qM:¬FJ (w.heap.size+1):=fun e=>by have:=Mi.out.1 _ e;omega
   have xQ:¬FJ w.heap.size:=fun e=>by have:=Mi.out.1 _ e;omega
   have YE:Boxed w4 (w.heap.size+1) 31 (.int .i64 0):=(t4.block _ (aJ YC.out) qM).trans YC.out;have aaA:Boxed w4 w.heap.size 88 (au sb):=(t4.block _ (aJ YD.out) xQ).trans YD.out;have f2:=YE.frozen;have f3:=YE.cell;have t5:ae (fun k=>k=w.heap.size+1) w4 (w4.setCell ⟨w.heap.size+1,0,none⟩ (.int .i64 err)):=ae.setCell (a:=⟨w.heap.size+1,0,none⟩) (ae.refl (fun k=>k=w.heap.size+1) w4) (.inl rfl) _
   have adF:=YE.set (.int .i64 err);have aU:w.heap.size≠w.heap.size+1:=U;have adG:Boxed (w4.setCell ⟨w.heap.size+1,0,none⟩ (.int .i64 err)) w.heap.size 88 (au sb):=(t5.block _ (aJ aaA) aU).trans aaA;have hge:∀k,F k→k≠w.heap.size+1:=fun k hk e=>by have:=HF.out k hk;omega
   have gY:=t5.blk (t4.blk gF.out.box gF.out.sF.1) (hge _ (og.out _ (.inr (.inr (.inl rfl)))));have xD:=gF.out.tm.same (t4.block _ gF.out.tm.lt gF.out.tF.1);have hm5:=xD.same (t5.block _ xD.lt (hge _ (og.out _ (.inr (.inr (.inr rfl))))));have Hr:=h4.beside t5 (fun k hk e=>by rcases hk with hk|hk;exact hge k (og.out k (.inl hk)) e;have:=fu.out.size;have:=mD.out;omega)
   have hc5:=(gF.out.ca.beside t4 (fun k hk e=>gF.out.apart k e hk)).beside t5 (fun k hk=>hge k (og.out k (.inr (.inl hk))))
   have zY:w3.heap.size≤w4.heap.size:=t4.size;have adH:w.heap.size+2≤w3.heap.size:=by have:=fu.out.size;have:=mD.out;omega
   have tw5:ae F w (w4.setCell ⟨w.heap.size+1,0,none⟩ (.int .i64 err)):=((ae.br (HQ.out.trans fu.out)).trans (t4.mono (fun k hk=>og.out k (.inl hk)))).setCell (.inr κ) _
   have zZ:(w4.setCell ⟨w.heap.size+1,0,none⟩ (.int .i64 err)).heap.size=w4.heap.size:=bO _ _ _;have SX:=Hd adF;have SY:=Hd adG;have wM:=Hd gY;have Zx:=Hd hm5;have O1:=Hd Hr;have HC5:=Hd hc5;have GR:=Hd (And.intro zY (And.intro adH zZ));have TW5:=Hd tw5;have wN:=Hd hge;clear h4 t4 YE aaA t5 adF adG gY xD hm5 Hr hc5 zY adH tw5 zZ hge OL aW x0 x1;go_upto_region 8 with fail;generalize w4.setCell ⟨w.heap.size+1,0,none⟩ (.int .i64 err)=w5 at *;have x0:=SY.out.cell;have x1:=SX.out.cell;obtain⟨k0,k1,k2,k3,k4,k5⟩:=Blk.c6 wM.out;have uV:∀k,grow FJ w3 w4 k→¬FC k:=fun k hk e=>hk.elim (fun hk=>gF.out.apart k hk e) (fun hk=>by have:=Mi.out.2 k e;have:=GR.out.2.1;omega)
   have hsF:¬grow FJ w3 w4 sb∧¬FC sb:=⟨fun hk=>hk.elim gF.out.sF.1 (fun hk=>by have:=gF.out.box.lt;omega),gF.out.sF.2⟩
   have htF:¬grow FJ w3 w4 tb∧¬FC tb:=⟨fun hk=>hk.elim gF.out.tF.1 (fun hk=>by have:=gF.out.tm.lt;omega),gF.out.tF.2⟩
   have SQ:∀k,grow FJ w3 w4 k∨FC k∨k=sb∨k=tb→grow F w3 w4 k:=fun k hk=>by
    rcases hk with hk|hk|hk|hk
    ·exact hk.elim (fun hk=>.inl (og.out k (.inl hk))) .inr
    ·exact .inl (og.out k (.inr (.inl hk)))
    ·exact .inl (og.out k (.inr (.inr (.inl hk))))
    ·exact .inl (og.out k (.inr (.inr (.inr hk))))
   have JD:=Hd uV;have HSF:=Hd hsF;have yw:=Hd htF;have HF5:=Hd SQ;clear uV hsF htF SQ;by_cases hz:err=0
   ·subst hz
    have SS:=Nt w5 FC cb p most clock ms mb m HC5.out pq.out.keys pq.out.ptrs;have rO:=Jz.out;rw[Φ rfl] at rO;have p8:=Hd SS;have aaB:=Hd rO;clear SS rO Jz;go_wp2_with fail;refine p8.out.mono ?_;rintro e w6 ⟨rfl,h6,t6⟩;have qM:¬FC (w.heap.size+1):=fun e=>by have:=Mi.out.2 _ e;omega
    have xQ:¬FC w.heap.size:=fun e=>by have:=Mi.out.2 _ e;omega
    have YF:Boxed w6 (w.heap.size+1) 31 (.int .i64 0):=(t6.block _ (aJ SX.out) qM).trans SX.out;have adI:Boxed w6 w.heap.size 88 (au sb):=(t6.block _ (aJ SY.out) xQ).trans SY.out;have y1:=YF.cell;have y2:=YF.frozen;have H6:=Hd h6;have T6:=Hd t6;have air:=Hd YF;have adJ:=Hd adI;clear h6 t6 YF adI;go_wp2_with fail;rw[aaB.out];have t7:ae (fun k=>k=w.heap.size+1) w6 (w6.setCell ⟨w.heap.size+1,0,none⟩ (.int .i64 0)):=ae.setCell (a:=⟨w.heap.size+1,0,none⟩) (ae.refl (fun k=>k=w.heap.size+1) w6) (.inl rfl) _
    have aU:w.heap.size≠w.heap.size+1:=U;have hgj:∀k,grow FJ w3 w4 k→k≠w.heap.size+1:=fun k hk e=>by rcases hk with hk|hk;exact wN.out k (og.out k (.inl hk)) e;have:=GR.out.2.1;omega
    have hU:StU (w6.setCell ⟨w.heap.size+1,0,none⟩ (.int .i64 0)) (grow FJ w3 w4) FC sb b p cb tb most clock ms mb _ ti { σ with j:=j',tx:=[] } :=
     ⟨t7.blk (T6.out.blk wM.out gF.out.sF.2) (wN.out _ (og.out _ (.inr (.inr (.inl rfl))))),(Zx.out.same (T6.out.block _ Zx.out.lt gF.out.tF.2)).same (t7.block _ (Ψ Zx.out.lt T6.out.size) (wN.out _ (og.out _ (.inr (.inr (.inr rfl)))))),(O1.out.beside T6.out JD.out).beside t7 hgj,H6.out.beside t7 (fun k hk=>wN.out k (og.out k (.inr (.inl hk)))),JD.out,HSF.out,yw.out,fun _=>by
      have e:({ σ with j:=j',tx:=[] }:StL).n=σ.n:=uN.out;rw[e];exact pq.out.cleaned _ (Fw.out (by first|rfl|trivial))⟩
    have tz:ae F w (w6.setCell ⟨w.heap.size+1,0,none⟩ (.int .i64 0)):=(TW5.out.trans (T6.out.mono (fun k hk=>og.out k (.inr (.inl hk))))).setCell (.inr κ) _
    have aaC:w4.heap.size≤(w6.setCell ⟨w.heap.size+1,0,none⟩ (.int .i64 0)).heap.size:=by have h1:=T6.out.size;have h2:=t7.size;have h3:=GR.out.2.2;omega
    exact Dj w _ F (grow F w3 w4) sb b { σ with j:=j',tx:=[] } K 0 _ rfl (eM.ofU hU HF5.out (fun k hk=>hk.elim (fun hk=>Ψ (HF.out k hk) tz.size) (fun hk=>U)) bL) (air.out.set _) ((t7.block _ (aJ adJ.out) aU).trans adJ.out) (fun k hk=>hk.elim .inl (fun hk=>.inr ⟨by have:=GR.out.2.1;omega,U⟩)) HF.out tz (fun _=>rfl)
   ·have e1:(err==0)=false:=Γ.2 hz
    have rO:=Jz.out;rw[η hz] at rO;have f5:=SX.out.frozen;have aaB:=Hd rO;have aaD:=Hd hz;clear rO Jz hz;go_wp2_with fail;rw[aaB.out];have t7:ae (fun k=>k=w.heap.size+1) w5 (w5.setCell ⟨w.heap.size+1,0,none⟩ (.int .i64 err)):=ae.setCell (a:=⟨w.heap.size+1,0,none⟩) (ae.refl (fun k=>k=w.heap.size+1) w5) (.inl rfl) _
    have aU:w.heap.size≠w.heap.size+1:=U;have hgj:∀k,grow FJ w3 w4 k→k≠w.heap.size+1:=fun k hk e=>by rcases hk with hk|hk;exact wN.out k (og.out k (.inl hk)) e;have:=GR.out.2.1;omega
    have hU:StU (w5.setCell ⟨w.heap.size+1,0,none⟩ (.int .i64 err)) (grow FJ w3 w4) FC sb b p cb tb most clock ms mb m ti { σ with j:=j' } :=
     ⟨t7.blk wM.out (wN.out _ (og.out _ (.inr (.inr (.inl rfl))))),Zx.out.same (t7.block _ Zx.out.lt (wN.out _ (og.out _ (.inr (.inr (.inr rfl)))))),O1.out.beside t7 hgj,HC5.out.beside t7 (fun k hk=>wN.out k (og.out k (.inr (.inl hk)))),JD.out,HSF.out,yw.out,fun hd=>by
      have hx:j'.d.dead=false:=hd;rw[HDD.out aaD.out] at hx;exact absurd hx Z⟩
    have tz:ae F w (w5.setCell ⟨w.heap.size+1,0,none⟩ (.int .i64 err)):=TW5.out.setCell (.inr κ) _;have aaC:w4.heap.size≤(w5.setCell ⟨w.heap.size+1,0,none⟩ (.int .i64 err)).heap.size:=by have h2:=t7.size;have h3:=GR.out.2.2;omega
    have abI:=fun (tmps:Array Value) (ht:tmps.getD 2 undef=.pointer (some ⟨w.heap.size+1,0,none⟩))=>Dj w _ F (grow F w3 w4) sb b { σ with j:=j' } K err tmps ht (eM.ofU hU HF5.out (fun k hk=>hk.elim (fun hk=>Ψ (HF.out k hk) tz.size) (fun hk=>U)) bL) (SX.out.set _) ((t7.block _ (aJ SY.out) aU).trans SY.out) (fun k hk=>hk.elim .inl (fun hk=>.inr ⟨by have:=GR.out.2.1;omega,U⟩)) HF.out tz (fun e=>absurd e aaD.out)
    simp only[η aaD.out] at abI;exact abI _ rfl
 ·have hr:σ.bj=(σ,σ.state true):=by unfold StL.bj;rw[Φ hz]
  rw[hr];have e1':(σ.state true==0)=false:=Γ.2 hz;have bN:=hb1.set (.int .i64 (σ.state true));have OG:Q w (wa.setCell ⟨w.heap.size+1,0,none⟩ (.int .i64 (σ.state true))):=Qs.st hq _ _ κ;have hend:=h.quiet OG (Ω K);have HE:=Hd hend;have aX:=Hd aC;have qC:=Hd bN;clear hend OG bN hr hz aC hh hn hp h hF bP eH hb1 hq;simp only at HE ⊢;generalize σ.state true=x at *;go_enter_defers func94,ntmps94;go_upto_region 1 with fail;rw[←dO];clear dO;go_wp2_with fail;refine aX.out.mono ?_;rintro e w1 ⟨rfl,rfl⟩;go_wp2_with fail;exact⟨.int .i64 x,vE rfl _ _ ⟨w.heap.size+1,0,none⟩ _ rfl (Ar _ _ x qC.out.cell),rfl,HE.out.1,HE.out.2⟩
theorem QF(rs ss:List (Nat×Nat)):ext (rs++ss)=ext rs++ext ss:=by simp[ext]
theorem AM(l:List (Nat×Nat)):∀u∈ext l,u.oneCell'=true:=by
 intro u hu;obtain⟨d,_,hd⟩:=PT.1 hu;simp at hd;rcases hd with rfl|rfl<;>simp[Value.oneCell']
theorem NQ:(prog.info? 120).map (fun i=>(i.zero,i.size,i.bytes))=some (some (.agg #[.int .i64 0,.int .i64 0]),2,16):=by kernel_rfl
theorem I1(W0:World){w:World}{ops:Array Oper}{o:Oper}{a:Act}{K:Act→World→Prop}{Qx:Exit→Act→World→Prop}{E:Prop}(pQ:o.guard=none)(s x:Operand)
  (ho:o.op=.call { callee:=.builtin .append,args:=#[s,x],argTypes:=#[54,54] })
  (v:Value) (n:Nat) (xs:List (Nat×Nat)) (hs:a.eval s=v) (aF:w.ownsRow W0.heap.size 120 2 v n (ext xs)) (hq:Q W0 w)
  (vx:Value) (m:Nat) (ys:List (Nat×Nat)) (hx:a.eval x=vx) (hl:Sl w vx m 2 (ext ys)) (qO:n+m≤1000000000)
  (h:∀v' w',w'.ownsRow W0.heap.size 120 2 v' (n+m) (ext (xs++ys))→Q W0 w'→K (a.put o.dst v') w') :
  if Region.wanted o (yielded ops a.tmps)=true then Oper.wp prog o a w K Qx else E:=by
 obtain⟨i0,hi,bY,bB,aW⟩:=info_parts NQ;have hw:Region.wanted o (yielded ops a.tmps)=true:=by simp[Region.wanted,pQ]
 rw[Φ hw];refine wZ w s x 54 ho W0.heap.size 120 i0 (.agg #[.int .i64 0,.int .i64 0]) 2 16 underlying54 hi bY bB aW rfl Z v n (ext xs) hs aF vx m (ext ys) hx hl (AM ys) (by unfold maxLen;omega) U hq.size ?_
 ·intro v' w' h2 h3 _
  exact h v' w' (by rw[QF];exact h2) (bD hq aF h3 (Ω _) hq.size)
theorem IA(w:World)(x y:Nat):Sl (w.alloc (.cells #[.int .i64 (x:Nat),.int .i64 (y:Nat)] 120)) (.slice (some ⟨w.heap.size,0,none⟩) 1 1) 1 2 (ext [(x,y)]) :=
 Sl.lit w #[.int .i64 (x:Nat),.int .i64 (y:Nat)] 120 1 2 rfl
theorem p5(w:World)(F:Nat→Prop)(sb b:Nat)(σ:StL)(K:Nat)(h:cg w F sb b σ K)(hn:iL σ):
  Calls prog 59 #[au sb] w fun e w'=>∃v,e=.returned v∧w'.ownsRow w.heap.size 120 2 v (mW σ.ai (ak σ.n) σ.n).length (ext (mW σ.ai (ak σ.n) σ.n))∧Q w w':=by
 have iH:=hn.max;have iU:=hn.map;have dZ:=h.hblocks;have rF:∀W,Q w W→Calls prog 51 #[au sb] W fun e w'=>e=.returned (.int .i64 (ak σ.n:Nat))∧W=w':=fun W q=>by
  obtain⟨FJ,FC,p,cb,tb,most,clock,ms,mb,m,ti,hg,_⟩:=h.keep q;exact Ew hg iH
 have hru:=fun (W:World)=>ym σ.ai (σ.n:Nat) W (by rw[iU];unfold aD;omega) U U
 rw[JX hn] at hru;obtain⟨p,cb,tb,bZ⟩:=h.boxed;obtain⟨c0,c1,c2,c3,c4,c5⟩:=Blk.c6 bZ;have hud:mW σ.ai (ak σ.n) σ.n=((aK σ.ai σ.n++[(σ.n,0)]).foldl nG ([],ak σ.n)).1:=rfl;obtain⟨RES,iQ⟩:∃RES,RES=((aK σ.ai σ.n++[(σ.n,0)]).foldl nG ([],ak σ.n)).1:=⟨_,rfl⟩;rw[hud,←iQ];have vR:=Hd iQ;clear iQ;have iV:=Hd dZ;have VU:=Hd rF;have HRU:=Hd hru;have hf1:ak σ.n≤4200:=by unfold ak aD;omega
 clear dZ rF hru bZ hud h hn iU;generalize σ.ai=m1 at *;generalize ak σ.n=lo at *;generalize σ.n=n at *;have vw:(aK m1 n).length+1≤1000000000:=by have:=oC m1 n;omega
 have FK:=Hd vw;have KK:=Hd (Q.refl w);clear vw;go_enter func59,ntmps59;go_wp2_with fail;refine(VU.out _ (Q.refl w)).mono ?_;rintro e w1 ⟨rfl,rfl⟩;go_wp2_with fail;go_region_law
  (first
   | (go_simp;go_at_call 112;with_reducible refine(iV.out _ ω).mono ?_;rintro e w5 ⟨rfl,rfl⟩)
   | (go_simp;go_at_call 125;with_reducible refine(HRU.out _).mono ?_;rintro e w6 ⟨v6,rfl,q6,o6⟩;have s':Q w w6:=Q.trans ω (Q.of q6);clear KK;have KK:=Hd s';have c2':=aI s' c2;have O6:=Hd (gT (base':=w.heap.size) o6 (Ω _));clear s' q6 o6)
   | (refine I1 w ρ _ _ ρ v6 (aK m1 n).length (aK m1 n) ρ (ownsRow_below O6.out (Q.alloc _ _)) (KK.out.trans (Q.alloc _ _)) (.slice (some ⟨w6.heap.size,0,none⟩) 1 1) 1 [(n,0)] ρ (IA w6 n 0) FK.out ?_;intro v7 w7 h7 q7;obtain⟨a7,cap7,rfl,-⟩:=aY h7;have H7:=Hd h7;have Q7:=Hd q7;clear h7 q7))
 all_goals
  go_simp;have Cw:∀k (hk:k<(aK m1 n++[(n,0)]).length),(aK m1 n++[(n,0)])[k].1+(aK m1 n++[(n,0)])[k].2≤n:=fun k hk=>by
   have hm:=MA hk;rcases No.1 hm with hm|hm
   ·exact((IF m1 n).1 _ hm).2.2.2.1
   ·rw[M3] at hm;rw[hm];exact Ω _
  have hlen:(aK m1 n++[(n,0)]).length=(aK m1 n).length+1:=κ;have hrn:(aK m1 n).length≤n:=oC m1 n;have Mj:=Sl.cy H7.out;have aP:∀k (hk:k<(aK m1 n++[(n,0)]).length),∃g off,a7=some ⟨g,off,none⟩∧w7.cell? ⟨g,off+k*2,none⟩=some (.int .i64 ((aK m1 n++[(n,0)])[k].1:Nat))∧w7.cell? ⟨g,off+k*2+1,none⟩=some (.int .i64 ((aK m1 n++[(n,0)])[k].2:Nat)):=fun k hk=>by
   obtain⟨_,a,cap,e,hc⟩:=Mj;simp only[Value.slice.injEq] at e;obtain⟨rfl,_,_⟩:=e;obtain⟨g,off,e,hc⟩:=hc U;have h1:=FZ (aK m1 n++[(n,0)]) k hk;exact⟨g,off,e,by have:=hc _ _ h1.1;rwa [We] at this,by have:=hc _ _ h1.2;rwa [We,←P0] at this⟩
  obtain⟨i1,qG,wH,tN,hy2⟩:=info_parts NQ;have ow:=Hd Cw;have xW:=Hd aP;have uN:=Hd hlen;clear Cw aP Mj H7 c0 c1 c2 c3 c4 c5 c2' O6 KK FK hlen;generalize aK m1 n++[(n,0)]=RR at *;generalize (aK m1 n).length=rl at *;go_wp2_with fail;go_loopw [3,4,22] (fun v at_ i wr=>∃(k:Nat) (st:List (Nat×Nat)×Nat),i=.int .i64 (k:Nat)∧k≤rl+1∧at_=.int .i64 (st.2:Nat)∧st.1.length≤k∧st.2≤4200∧Hid (wr.ownsRow w7.heap.size 120 2 v st.1.length (ext st.1))∧Hid ((RR.take k).foldl nG ([],lo)=st)∧Hid (Q w7 wr)) (fun _ _ i _=>rl+1-(intOf i).toNat)
  case atStart=>exact⟨0,([],lo),rfl,MD _,rfl,Ω _,hf1,Hd (World.ownsRow_nil _ _ _ _),Hd rfl,Hd (Q.refl _)⟩
  case round =>
   obtain⟨k,⟨acc,pos⟩,rfl,hk,rfl,jy,Ym,HOW,aX,HQ⟩:=hrel;simp only at jy Ym HOW ⊢;by_cases ay:k<rl+1
   ·have bq:(k:Int)<(rl:Int)+1:=U
    have oq:k<RR.length:=by rw[uN.out];exact ay
    obtain⟨g,off,rfl,x1,x2⟩:=xW.out k oq;have y1:=aI HQ.out x1;have y2:=aI HQ.out x2;have qp:=ow.out k oq;have aC:(RR.take (k+1)).foldl nG ([],lo)=nG (acc,pos) RR[k]:=by
     rw[M2 oq,W5,aX.out];rfl
    generalize RR[k]=r at *;obtain⟨a,c⟩:=r;simp only at y1 y2 qp;unfold nG at aC;simp only at aC;have Dv:=Hd aC;clear aC x1 x2 aX;by_cases rQ:pos<a
    ·have e1:(pos:Int)<(a:Int):=U
     have aC:=Dv.out;rw[Φ rQ] at aC;have aaE:=Hd aC;have hw:IntKind.i64.wrap ((a:Int)-(pos:Int))=(a:Int)-(pos:Int):=IntWalk.i64_in _ U;have gD:IntKind.i64.wrap ((a:Int)+(c:Int))=(a:Int)+(c:Int):=IntWalk.i64_in _ U;have cO:∀u∈#[Value.int .i64 (pos:Nat),Value.int .i64 ((a:Int)-(pos:Int))].toList,u.oneCell'=true:=by intro u hu;simp at hu;rcases hu with rfl|rfl<;>rfl
     have dI:(acc.length+1)*16≤140737488355328:=U;have qJ:=Hd cO;have uY:=Hd dI;have eH:w7.heap.size≤(wr.alloc (.cells #[.int .i64 (a:Nat),.int .i64 (c:Nat)] 120)).heap.size:=by have:=HQ.out.size;simp;omega
     have CB:=ownsRow_below HOW.out (Q.alloc wr (.cells #[.int .i64 (a:Nat),.int .i64 (c:Nat)] 120));have Ht:=Hd CB;have HVB:=Hd (fun kk hk=>(HOW.out.lt kk hk).2)
     have eG:Q w7 (wr.alloc (.cells #[.int .i64 (a:Nat),.int .i64 (c:Nat)] 120)):=HQ.out.trans (Q.alloc _ _);have bJ:=Hd eG;have z0:(wr.alloc (.cells #[.int .i64 (a:Nat),.int .i64 (c:Nat)] 120)).cell? ⟨wr.heap.size,0,none⟩=some (.int .i64 (a:Nat)):=(Blk.new wr 120 #[.int .i64 (a:Nat),.int .i64 (c:Nat)]).cell 0 _ rfl;have z1:(wr.alloc (.cells #[.int .i64 (a:Nat),.int .i64 (c:Nat)] 120)).cell? ⟨wr.heap.size,1,none⟩=some (.int .i64 (c:Nat)):=(Blk.new wr 120 #[.int .i64 (a:Nat),.int .i64 (c:Nat)]).cell 1 _ rfl;have hz:(wr.alloc (.cells #[.int .i64 (a:Nat),.int .i64 (c:Nat)] 120)).heap.size=wr.heap.size+1:=κ;have HZ:=Hd hz;clear cO dI CB aC Dv rQ eG hz;go_upto_region 7 with fail;generalize wr.alloc (.cells #[.int .i64 (a:Nat),.int .i64 (c:Nat)] 120)=wx at *;have amA:wx.heap.size≤wx.heap.size:=Ω _;go_wp2_with (at_builtin;refine bG wx ρ _ _ 54 ρ w7.heap.size 120 _ i1 (.agg #[.int .i64 0,.int .i64 0]) 2 16 underlying54 qG wH tN hy2 rfl Z Z _ _ _ ρ Ht.out #[.int .i64 (pos:Nat),.int .i64 ((a:Int)-(pos:Int))] ρ rfl qJ.out uY.out eH ?_)
     intro g11 jI w11 iB gu lQ jR iC;have qj:Q w7 w11:=bD bJ.out Ht.out gu (Ω _) eH;have gW:w11.ownsRow w7.heap.size 120 2 (.slice (some ⟨g11,0,none⟩) (acc.length+1) jI) (acc++[(pos,a-pos)]).length (ext (acc++[(pos,a-pos)])):=by
      rw[Δ,QF,show ext [(pos,a-pos)]=[.int .i64 (pos:Nat),.int .i64 ((a:Int)-(pos:Int))] by simp only[ext,OR,V1,ON];rw[show(((a-pos:Nat):Nat):Int)=(a:Int)-(pos:Int) by omega]];exact iB
     have v0:w11.cell? ⟨wr.heap.size,0,none⟩=some (.int .i64 (a:Nat)):=by
      exact gu.cell z0 (fun h=>by have:=HVB.out _ h.symm;simp at this)
     have v1:w11.cell? ⟨wr.heap.size,1,none⟩=some (.int .i64 (c:Nat)):=by
      exact gu.cell z1 (fun h=>by have:=HVB.out _ h.symm;simp at this)
     have oz:=Hd qj;have qW:=Hd gW;clear iB gu lQ jR iC gW qj;go_wp2_with fail;go_roundw;case rel=>exact⟨k+1,(acc++[(pos,a-pos)],a+c),by go_num,U,by push_cast;rfl,by simp;omega,by simp only;omega,qW,aaE,oz⟩
     case measure=>simp[intOf];omega
    ·have e1:¬(pos:Int)<(a:Int):=U
     have aC:=Dv.out;rw[η rQ] at aC;have aaE:=Hd aC;have gD:IntKind.i64.wrap ((a:Int)+(c:Int))=(a:Int)+(c:Int):=IntWalk.i64_in _ U;have CB:=ownsRow_below HOW.out (Q.alloc wr (.cells #[.int .i64 (a:Nat),.int .i64 (c:Nat)] 120));have Ht:=Hd CB;have eG:Q w7 (wr.alloc (.cells #[.int .i64 (a:Nat),.int .i64 (c:Nat)] 120)):=HQ.out.trans (Q.alloc _ _);have bJ:=Hd eG;clear CB aC Dv rQ eG;go_wp2_with fail;go_roundw;case rel=>exact⟨k+1,(acc,a+c),by go_num,U,by push_cast;rfl,by simp only;omega,by simp only;omega,Ht,aaE,bJ⟩
     case measure=>simp[intOf];omega
   ·have bq:¬(k:Int)<(rl:Int)+1:=U
    obtain rfl:k=rl+1:=U;have aC:=aX.out;rw[NE (by rw[uN.out];exact Ω _)] at aC
    have Dv:=Hd aC;have HOO:=Hd (gT (base':=w.heap.size) HOW.out Q7.out.size);have VH:=Hd (Q7.out.trans HQ.out);clear aC aX HOW HQ;go_wp2_with fail;go_ret;rw[vR.out,Dv.out];exact⟨_,rfl,HOO.out,VH.out⟩
theorem IN(a b:Bytes)(h:a.length+b.length≤9223372036854775807)(W:World):(Op.stringOp .add ⟨a.toArray⟩ ⟨b.toArray⟩).run prog W=.ok (ah (a++b)) W:=by
 rw[run_string_add_sum W _ _ (by simpa[ByteArray.size] using h),bytes_append]
theorem qe(l:Bytes)(n k:Nat):cnt l n≤cnt l (n+k):=by
 induction k with
 | zero=>exact Ω _
 | succ k ih =>
  refine My ih ?_;show cnt l (n+k)≤cnt l (n+k+1);rw[cnt];omega
def xg(d:af)(k:Nat):Bytes:=((List.range k).map fun i=>d.get (63+i)).flatten
theorem NS(d:af)(k:Nat):xg d (k+1)=xg d k++d.get (63+k):=by
 unfold xg;rw[UV,Pu,T0];simp
theorem QG(d:af)(k:Nat)(h:∀i,i<k→(d.get (63+i)).length=256):(xg d k).length=256*k:=by
 induction k with
 | zero=>rfl
 | succ k ih=>rw[NS,Δ,ih (fun i hi=>h i U),h k U];omega
theorem QH(w:World)(F:Nat→Prop)(b:Nat)(d:af)(most:Nat)(h:cE w F b d)(hF:∀k,F k→k<w.heap.size)(hd:d.Ok)(hp:d.dead=false→d.p.length≤800000)(hm:64≤most∧most≤1024)(ho:DK d):
  Calls prog 49 #[au b,.int .i64 (most:Nat)] w fun e w'=>∃sb,e=.returned (.tuple #[au sb,.int .i64 0])∧cg w' (grow F w w') sb b ⟨(aL d).1,mapD (aL d).1.d,[],false,[]⟩ 0∧ae F w w':=by
 have tZ:=NR w F b d h hF hd (by have:=ho.big;omega) hp
 have e1:¬(most:Int)<64:=U;have e2:¬(1024:Int)<(most:Int):=U;have fT:=F7 d;have iH:=hd.max;obtain⟨o1,o2,o3,o4,o5,o6,o7,o8,o9⟩:=ho;have abK:mapD (aL d).1.d=xg (aL d).1.d (aD d.l.length):=by unfold mapD xg;rw[fT]
 have pV:∀i,i<d.l.length→((aL d).1.d.get i).length=256:=fun i hi=>af.gj o6 i (by rw[fT];exact hi)
 have He:=fun (W:World) (p:Nat)=>CL W p most U hm.2
 have zX:=@run_makeMap prog;unfold IB at tZ;generalize aL d=oj at *;obtain⟨j,jc⟩:=oj;simp only at *;subst o1;have HJ:=Hd tZ;have Zg:=Hd He;have HM:=Hd hm;have HF:=Hd hF;have JE:=Hd abK;have FH:=Hd pV;clear tZ h hd hp hm He hF abK pV;go_enter func49,ntmps49;go_wp2_with fail;refine HJ.out.mono ?_;rintro e w1 ⟨t1,hh⟩;rcases hh with ⟨h0,p,rfl,DZ⟩|⟨h0,_⟩
 ·have cO:=Zg.out w1 p
  have vg:=Hd cO;have pE:=Hd DZ;have T1:=Hd t1;clear cO DZ t1 h0;go_wp2_with fail;refine vg.out.mono ?_;rintro e w2 ⟨cb,rfl,Bp,q2⟩;have VY:=Hd Bp;have Q2:=Hd q2;clear Bp q2;go_upto_region 8 with fail;clear zX;generalize zu:(w2.alloc (Obj.map #[] 0)).alloc (Obj.cells #[au p,au cb,.string ⟨#[]⟩,.string ⟨#[]⟩,.bool false,.map (some w2.heap.size)] 172)=w3;have gI:Blk w3 (w2.heap.size+1) 172 (nI p cb w2.heap.size ⟨j,[],[],false,[]⟩):=by
   rw[←zu];have:=Blk.new (w2.alloc (Obj.map #[] 0)) 172 (nI p cb w2.heap.size ⟨j,[],[],false,[]⟩);rwa [World.size_alloc] at this
  have zV:de w3 w2.heap.size []:=by
   rw[←zu];exact(de.made w2).same ((Q.alloc (w2.alloc (Obj.map #[] 0)) _).block _ κ)
  have q23:Q w2 w3:=by rw[←zu];exact(Q.alloc _ _).trans (Q.alloc _ _)
  have OL:w3.heap.size=w2.heap.size+2:=by rw[←zu];simp
  clear zu;have Tg:=fun (W:World) (t:ae (fun k=>k=w2.heap.size+1) w3 W)=>(pE.out.keep (Q2.out.trans q23)).beside t (fun k hk e=>by have h1:=pE.out.lt k hk;have h2:=Q2.out.size;omega)
  obtain⟨c0,c1,c2,c3,c4,c5⟩:=Blk.c6 gI;have f2:=gI.frozen 2;have Ti:=Tg w3 (ae.refl _ _);have k0:=Ti.box.c8.1;have vT:aD d.l.length≤2∧1≤aD d.l.length∧d.l.length≤2048*aD d.l.length∧63+aD d.l.length<d.l.length:=by unfold aD;omega
  have eu:=oL w3 _ b j.d Ti.dev;rw[fT] at eu;have Mk:=NI w3 p b j Ti.box o2.log2;rw[o4] at Mk;have eP:=fun (W:World)=>ML d.l.length W U
  have nO:=fun (W:World)=>BS d.l.length W U
  have Eb:=fun (W:World)=>Nv d.l.length W U
  have dz:=fun (W:World) (t:ae (fun k=>k=w2.heap.size+1) w3 W) (i:Nat) (hi:i<d.l.length)=>(show Calls prog 106 #[au b,.int .i64 (i:Nat)] W fun e w'=>e=.returned (.tuple #[ah (j.d.get i),.int .i64 0])∧Q W w' from by
   have hr:=AQ W _ b j.d (i:Nat) (Tg W t).dev (by rw[fT];exact iH) (fun _=>by have:=o2.eK o3;omega)
   have e:j.d.read (i:Nat)=(j.d.get i,0):=by unfold af.read;rw[af.gC o3 i (by rw[fT];exact hi),Φ rfl];rfl
   rw[e] at hr;exact hr)
  have aaL:=dz w3 (ae.refl _ _) 62 U;rw[o7] at aaL;have ais:=Hd aaL;clear aaL;have iU:(xg j.d (aD d.l.length)).length=256*aD d.l.length:=QG _ _ (fun i hi=>FH.out _ U)
  have dQ:=fun (W:World) (i:Nat) (hi:i≤2048*aD d.l.length)=>Ny (mapD j.d) (i:Nat) W (by rw[JE.out,iU];omega) U U
  have ku:∀i,i≤2048*aD d.l.length→fA (mapD j.d) (i:Nat)=i:=fun i hi=>by unfold fA;rw[JE.out,iU];omega
  have YG:=fun (W:World)=>dQ W (2048*aD d.l.length) (Ω _)
  have M6:=fun (W:World)=>dQ W d.l.length vT.2.2.1
  have Tj:=fun (W:World)=>dQ W (ak d.l.length) (by unfold ak;omega)
  rw[ku _ (Ω _)] at YG;rw[ku _ vT.2.2.1] at M6;rw[ku _ (by unfold ak;omega),o8] at Tj
  have lK:ak d.l.length<d.l.length:=by unfold ak;omega
  have Cy:((2048*aD d.l.length:Nat):Int)=2048*(aD d.l.length:Int):=by push_cast;rfl
  rw[Cy] at YG;have abL:=qe (mapD j.d) d.l.length (2048*aD d.l.length-d.l.length);rw[show d.l.length+(2048*aD d.l.length-d.l.length)=2048*aD d.l.length by omega] at abL
  have h9:(cnt (mapD j.d) (2048*aD d.l.length):Int)-(cnt (mapD j.d) d.l.length:Int)=2048*(aD d.l.length:Int)-(d.l.length:Int):=U;have amC:cnt (mapD j.d) d.l.length≤4096:=My (KM _ _) iH;have amo:cnt (mapD j.d) (2048*aD d.l.length)≤4096:=My (KM _ _) U;have qI:=Hd gI;have Y5:=Hd zV;have Q23:=Hd q23;have HZ3:=Hd OL;have HJW:=Hd Tg;have rR:=Hd eu;have HHO:=Hd Mk;have iW:=Hd eP;have wP:=Hd nO;have Tk:=Hd Eb;have iO:=Hd dz;have HML:=Hd iU;have ait:=Hd YG;have Tm:=Hd M6;have aiu:=Hd Tj;have O7:=Hd o7;have O9:=Hd h9;have HFD:=Hd lK;have pX:¬(d.l.length:Int)<(ak d.l.length:Int):=U;clear gI zV q23 Tg eu Mk eP nO Eb dz iU dQ ku YG M6 Tj o8 o7 o9 Ti Cy abL h9;go_wp2_with fail;refine rR.out.mono ?_;rintro e w4 ⟨rfl,rfl⟩;go_wp2_with fail;refine HHO.out.mono ?_;rintro e w4 ⟨rfl,rfl⟩;go_wp2_with fail;refine(iW.out _).mono ?_;rintro e w4 ⟨rfl,rfl⟩;go_wp2_with fail;refine ais.out.mono ?_;rintro e w4 ⟨rfl,q4⟩;have Q4:=Hd q4;clear q4 c0 c1 c2 c3 c4 c5 f2 k0;go_wp2_with fail;refine(wP.out _).mono ?_;rintro e w5 ⟨rfl,rfl⟩;have Ko:=vT.1;have YH:∀k,k<aD d.l.length→(j.d.get (63+k)).length=256∧63+k<d.l.length:=fun k hk=>⟨FH.out _ (by have:=vT.2.2.2;omega),by have:=vT.2.2.2;omega⟩
  have aaM:=Hd YH;have hall:2048*aD d.l.length≤4096:=U;have gV:d.l.length≤2048*aD d.l.length:=vT.2.2.1;clear YH vT;generalize adN:aD d.l.length=pn at *;have sO:=Hd adN;clear adN;generalize hnE:d.l.length=n at *;have HNE:=Hd hnE;clear hnE;go_wp2_with fail;go_loopw [66] (fun v wr=>∃k:Nat,v=.int .i64 (k:Nat)∧k≤pn∧Hid (ae (fun x=>x=w2.heap.size+1) w3 wr)∧Hid (Blk wr (w2.heap.size+1) 172 (nI p cb w2.heap.size ⟨j,xg j.d k,[],false,[]⟩))) (fun v _=>pn-(intOf v).toNat)
  case atStart=>exact⟨0,rfl,MD _,ae.br Q4.out,qI.out.stays Q4.out⟩
  case round =>
   obtain⟨k,rfl,hk,HT,HB⟩:=hrel;obtain⟨c0,c1,c2,c3,c4,c5⟩:=Blk.c6 HB.out;have f2:=HB.out.frozen 2;have hjb:=(HJW.out wr HT.out).box;have k0:=hjb.c8.1;by_cases ay:k<pn
   ·have bq:(k:Int)<(pn:Int):=U
    have hr:=iO.out wr HT.out (63+k) (aaM.out k ay).2;have Cy:(((63+k:Nat):Nat):Int)=63+(k:Int):=by push_cast;rfl
    rw[Cy] at hr;have adP:(xg j.d k).length=256*k:=QG _ _ (fun i hi=>(aaM.out i U).1)
    have hsum:=IN (xg j.d k) (j.d.get (63+k)) (by rw[adP,(aaM.out k ay).1];omega)
    rw[←NS] at hsum;have HR:=Hd hr;clear hr Cy adP hjb;go_wp2_with fail;refine HR.out.mono ?_;rintro e w6 ⟨rfl,q6⟩;have tQ:=HB.out.stays q6;have d2:=tQ.cell 2 (ah (xg j.d k)) rfl;have g2:=tQ.frozen 2;have t6:ae (fun x=>x=w2.heap.size+1) w3 (w6.setCell ⟨w2.heap.size+1,2,none⟩ (ah (xg j.d (k+1)))):=ae.setCell (a:=⟨w2.heap.size+1,2,none⟩) (HT.out.trans (ae.br q6)) (.inl rfl) _
    have Tn:Blk (w6.setCell ⟨w2.heap.size+1,2,none⟩ (ah (xg j.d (k+1)))) (w2.heap.size+1) 172 (nI p cb w2.heap.size ⟨j,xg j.d (k+1),[],false,[]⟩):=tQ.set 2 _;have VE:=Hd t6;have ZC:=Hd Tn;clear q6 tQ t6 Tn;go_wp2_with fail;go_roundw;case rel=>exact⟨k+1,by go_num,U,VE,ZC⟩
    case measure=>simp[intOf];omega
   ·have bq:¬(k:Int)<(pn:Int):=U
    obtain rfl:k=pn:=U;rw[←JE.out] at c2 HB;have KK:=Hd (Q.refl wr);clear f2 k0 hjb;go_wp2_with fail;refine(wP.out _).mono ?_;rintro e w5 ⟨rfl,rfl⟩;go_wp2_with fail;generalize sJ:cnt (mapD j.d) (2048*k)=x1 at *;generalize mh:cnt (mapD j.d) n=x2 at *;have HX:=Hd (And.intro sJ mh);clear sJ mh;go_region_held3 (fun w'=>w'.cell? ⟨w2.heap.size+1,2,none⟩=some (ah (mapD j.d)))
     (first|exact c2|exact aI δ c2)
     (first
      | (go_at_call 108;with_reducible refine(ait.out _).mono ?_;rintro e w6 ⟨rfl,q6⟩;have s':Q wr w6:=Q.trans ω (Q.of q6);clear KK;have KK:=Hd s';clear s' q6)
      | (go_at_call 108;with_reducible refine(Tm.out _).mono ?_;rintro e w7 ⟨rfl,q7⟩;have s':Q wr w7:=Q.trans ω (Q.of q7);clear KK;have KK:=Hd s';clear s' q7))
    all_goals
     have FM:Q wr w7:=ω;have Fx:=Hd FM;have c2':=aI FM c2;clear KK FM c2 c0 c1 c3 c4 c5;have KK:=Hd (Q.refl w7);have eO:IntKind.i64.wrap ((x1:Int)-(x2:Int))=2048*(k:Int)-(n:Int):=by rw[IntWalk.i64_in _ U];exact O9.out
     have gD:IntKind.i64.wrap (2048*(k:Int)-(n:Int))=2048*(k:Int)-(n:Int):=IntWalk.i64_in _ U;go_wp2_with fail;rw[eO];clear eO;go_region_held3 (fun w'=>w'.cell? ⟨w2.heap.size+1,2,none⟩=some (ah (mapD j.d)))
      (first|exact c2'|exact aI δ c2')
      (first
       | (go_at_call 109;with_reducible refine(Tk.out _).mono ?_;rintro e w8 ⟨rfl,q8⟩;have s':Q w7 w8:=Q.trans ω q8;clear KK;have KK:=Hd s';clear s' q8)
       | (go_at_call 105;with_reducible refine(iW.out _).mono ?_;rintro e w9 ⟨rfl,rfl⟩)
       | (go_at_call 108;with_reducible refine(aiu.out _).mono ?_;rintro e w10 ⟨rfl,q10⟩;have s':Q w7 w10:=Q.trans ω (Q.of q10);clear KK;have KK:=Hd s';clear s' q10))
     all_goals
      have EX:Q w7 w10:=ω;have KC:ae (fun x=>x=w2.heap.size+1) w3 w10:=HT.out.trans (ae.br (Fx.out.trans EX))
      have OG:=Fx.out.trans EX;have bB:=T1.out.size;have aW:=Q2.out.size;have aC:cg w10 (grow F w w10) (w2.heap.size+1) b ⟨j,mapD j.d,[],false,[]⟩ 0:=by
       refine⟨grow F w w1,fun x=>w1.heap.size≤x∧x<w2.heap.size,p,cb,w2.heap.size,most,0,0,w1.heap.size,[],[],⟨HB.out.stays OG,Y5.out.same (KC.block _ (by rw[OL];omega) U),HJW.out w10 KC,(VY.out.keep Q23.out).beside KC (fun x hx e=>U),fun x hx hc=>?_,⟨fun hx=>by have:=pE.out.lt _ hx;omega,fun hx=>U⟩,⟨fun hx=>by have:=pE.out.lt _ hx;omega,fun hx=>U⟩,fun _=>cN.empty _ _ _ HM.out,fun x=>Iff.rfl,fun x hx=>by simp at hx⟩,fun x hx=>?_,fun x hx=>?_,Ω _⟩
       ·have:=pE.out.lt x hx;omega
       ·have hz:=KC.size
        rcases hx with hx|hx|hx|hx
        ·exact hx.elim .inl (fun hx=>.inr ⟨hx.1,U⟩)
        ·exact .inr ⟨U,U⟩
        ·exact .inr ⟨U,U⟩
        ·exact .inr ⟨U,U⟩
       ·have hz:=KC.size
        exact hx.elim (fun hx=>by have:=HF.out x hx;omega) (fun hx=>hx.2)
      have JF:ae F w w10:=(T1.out.q (Q2.out.trans Q23.out)).step (KC.mono (fun x hx=>.inr ⟨U,U⟩))
      have aX:=Hd aC;have nW:=Hd JF;clear aC JF KC EX OG KK;go_wp2_with fail;go_ret2;exact⟨_,rfl,aX.out,nW.out⟩
 ·exact absurd rfl h0
end
end Go.Proofs.YtonlbpljghohmaaGreatDoor
