/- Joined texts of one proof: what is needed of Jrn4, Jrn5, JrnM, WBlkA, WBlkC, WRDevA, WBlkB, AppSl. -/
import Derived.Test.YthcpkgfieoneeaaGreatDoorJPJrn
import Derived.Test.YthcpkgfieoneeaaGreatDoorJPKit
import Derived.Deep.RegionHeld3
import Derived.Maps.AppendAt
import Derived.Deep.AppendLies
import Derived.Lib.AppendZeros
set_option linter.unusedSimpArgs false
set_option linter.unusedVariables false
set_option linter.unnecessarySimpa false
set_option maxRecDepth 100000
set_option maxHeartbeats 16000000
namespace Go.Proofs.YthcpkgfieoneeaaGreatDoor
section
def updC(C:Nat→Bytes)(ws:List WrL):Nat→Bytes:=fun i=>lastP ws i (C i)
theorem lastP_only(p:List WrL)(w:WrL)(s:Bytes)(hw:w∈p)(h:∀x∈p,x.1=w.1→x.2=w.2):lastP p w.1 s=w.2:=by
 obtain⟨x,hx,h1,h2⟩:=lastP_mem p w.1 s ⟨w,hw,rfl⟩
 rw[h2];exact h x hx h1
theorem logW_mem(j:JL)(ws:List WrL)(w:WrL):w∈j.logW ws↔∃i,i≤ws.length∧w=(j.place (i+1),(ws.map (·.2)++[noughtsL]).getD i []):=by
 unfold JL.logW
 constructor
 ·intro h
  obtain⟨x,hx,rfl⟩:=List.mem_map.1 h
  have hx':=List.mem_zipIdx_iff_getElem?.1 hx
  have hlt:x.2<ws.length+1:=by
   have:=(List.getElem?_eq_some_iff.1 hx').1
   simpa using this
  exact⟨x.2,by omega,by rw[List.getD_eq_getElem?_getD,hx'];rfl⟩
 ·rintro⟨i,hi,rfl⟩
  refine List.mem_map.2 ⟨((ws.map (·.2)++[noughtsL]).getD i [],i),?_,rfl⟩
  rw[List.mem_zipIdx_iff_getElem?]
  have hlt:i<(ws.map (·.2)++[noughtsL]).length:=by simp;omega
  show(ws.map (·.2)++[noughtsL])[i]?=some ((ws.map (·.2)++[noughtsL]).getD i [])
  rw[List.getD_eq_getElem?_getD,List.getElem?_eq_getElem hlt];rfl
theorem torn_end(s:Bytes)(hs:s.length=256)(c:Nat)(hc:c<256):(s.take c++noughtsL.drop c).drop 252≠endT:=by
 intro h
 have h3:((s.take c++noughtsL.drop c).drop 252)[3]?=some 69:=by rw[h];rfl
 rw[List.getElem?_drop,List.getElem?_append_right (by simp[hs];omega)] at h3
 simp only[List.length_take,hs,List.getElem?_drop,noughtsL,List.getElem?_replicate] at h3
 rw[if_pos (by omega)] at h3
 exact absurd h3 (by decide)
theorem noughts_end:noughtsL.drop 252≠endT:=by unfold noughtsL;decide +kernel
theorem flatten_snoc{α:Type}(l:List (List α))(x:List α):(l++[x]).flatten=l.flatten++x:=by simp
theorem com_run{lg K:Nat}{j:JL}{fr:List (List WrL)}{C:Nat→Bytes}(h:JInv lg K j fr C)(ws:List WrL)(hw:WrOk ws)(hh:∀w∈ws,2+lg≤w.1∧w.1<j.d.l.length)(hroom:ws.length+2≤lg-j.used)(hK:K+3<18446744073709551616):
  ((j.com ws).2=0∧JInv lg (K+1) (j.com ws).1 (fr++[ws]) (updC C ws)∧(j.com ws).1.d.l.length=j.d.l.length) ∨
  ((j.com ws).2=4∧(j.com ws).1.d.dead=true∧(j.com ws).1.d.Ok∧Safe lg (K+1) (j.com ws).1.d (fun D=>D=C∨D=updC C ws)):=by
 have hr:=h.hrec
 have hlg:=h.hlog
 have hlog:=hr.hlog;have hleast:=hr.hleast;have hk:=hr.hk
 have hu:=hr.hchain.used
 have hus:=h.hused
 have hnK:=h.hnextK;have hn:=h.hnext;have heK:=h.he
 have hpl:∀m,j.place m=logAt j.s (usedF 0 fr+m):=h.place_eq
 have hla:∀m,2≤j.place m∧j.place m<2+j.s.log:=fun m=>by rw[hpl];exact logAt_lt j.s _ (by omega)
 have hinj:∀a b,usedF 0 fr+a<j.s.log→usedF 0 fr+b<j.s.log→j.place a=j.place b→a=b:=fun a b ha hb e=>by
  rw[hpl,hpl] at e
  have:=logAt_inj j.s hr.hplace _ _ ha hb e
  omega
 have hw1:∀w∈j.logW ws,w.1<j.d.l.length∧w.2.length=256:=by
  intro w hx
  obtain⟨i,hi,rfl⟩:=(logW_mem j ws w).1 hx
  refine⟨by have:=(hla (i+1)).2;show j.place (i+1)<_;omega,?_⟩
  show((ws.map (·.2)++[noughtsL]).getD i []).length=256
  refine DevL.getD_mem_length (fun s hs=>?_) (by simp;omega)
  rcases List.mem_append.1 hs with hs|hs
  ·obtain⟨x,hx,rfl⟩:=List.mem_map.1 hs
   exact(hw.2.2 x hx).2
  ·rw[List.mem_singleton.1 hs];exact noughts_len
 have hall1:∀w∈j.logW ws,(w.1<j.d.l.length∧w.2.length=256)∧Allowed j.s fr w:=fun w hx=>⟨hw1 w hx,by
  obtain⟨i,hi,rfl⟩:=(logW_mem j ws w).1 hx
  exact .inr ⟨usedF 0 fr+(i+1),by omega,by omega,hpl _,fun e=>by omega⟩⟩
 have hlw:∀i,i≤ws.length→∀s,lastP (j.logW ws) (j.place (i+1)) s=(ws.map (·.2)++[noughtsL]).getD i []:=fun i hi s=>by
  refine lastP_only (j.logW ws) (j.place (i+1),(ws.map (·.2)++[noughtsL]).getD i []) s ((logW_mem j ws _).2 ⟨i,hi,rfl⟩) (fun x hx e=>?_)
  obtain⟨i2,hi2,rfl⟩:=(logW_mem j ws x).1 hx
  have:=hinj (i2+1) (i+1) (by omega) (by omega) e
  rw[show i2=i by omega]
 have hno:∀i,(i<2∨2+j.s.log≤i∨i=j.place 0)→∀w∈j.logW ws,w.1≠i:=fun i hi w hx e=>by
  obtain⟨m,hm,rfl⟩:=(logW_mem j ws w).1 hx
  have:=hla (m+1)
  rcases hi with hi|hi|hi
  ·simp only at e;omega
  ·simp only at e;omega
  ·have:=hinj (m+1) 0 (by omega) (by omega) (by rw[←hi];exact e)
   omega
 unfold JL.com
 rcases DevL.lays_run _ j.d h.live hw1 with ⟨a,b,c,e⟩|⟨a,b,c,k,e⟩
 ·have a':(j.com1 ws).2=0:=a
  rw[if_neg (by rw[a'];simp)]
  have hok1:(j.com1 ws).1.Ok:=DevL.lays_ok h.ok _
  have hb:(j.com1 ws).1.dead=false:=b
  have hl:(j.com1 ws).1.l=layP j.d.l (j.d.p++j.logW ws):=c
  have hp:(j.com1 ws).1.p=[]:=e
  have hlen:(j.com1 ws).1.l.length=j.d.l.length:=by rw[hl,layP_length]
  have hpq:∀w∈j.d.p++j.logW ws,w.1<j.d.l.length∧w.2.length=256:=fun w hx=>by
   rcases List.mem_append.1 hx with hx|hx
   ·exact h.ok.p w hx
   ·exact hw1 w hx
  have hrec1:RecS (j.com1 ws).1.l j.s j.k fr C:=by
   rw[hl]
   refine hr.img hpq (fun w hx=>?_) (lay_img _ _ h.ok.l hpq)
   rcases List.mem_append.1 hx with hx|hx
   ·exact h.allowed w hx
   ·exact(hall1 w hx).2
  have hg1:∀i,i<j.d.l.length→at' (j.com1 ws).1.l i=lastP (j.logW ws) i (lastP j.d.p i (at' j.d.l i)):=fun i hi=>by
   rw[hl,layP_at _ _ _ hi,lastP_append]
  have hlowp:∀i,i<2+j.s.log→∀s,lastP j.d.p i s=s:=fun i hi s=>lastP_none _ _ _ (fun w hx e=>by have:=(h.pend w hx).1;omega)
  have hhome:∀i,2+j.s.log≤i→i<(j.com1 ws).1.l.length→at' (j.com1 ws).1.l i=C i:=fun i h1 h2=>by
   rw[hlen] at h2
   rw[hg1 i h2,lastP_none _ _ _ (hno i (.inr (.inl h1)))]
   exact h.get i (by omega) h2
  have hend0:at' (j.com1 ws).1.l (j.place 0)=noughtsL:=by
   rw[hg1 _ (by have:=(hla 0).2;omega),lastP_none _ _ _ (hno _ (.inr (.inr rfl))),hlowp _ (hla 0).2]
   have:=h.hend
   rw[hus] at this
   rw[hpl];exact this
  have hbody:∀i,i≤ws.length→at' (j.com1 ws).1.l (j.place (i+1))=(ws.map (·.2)++[noughtsL]).getD i []:=fun i hi=>by
   rw[hg1 _ (by have:=(hla (i+1)).2;omega)]
   exact hlw i hi _
  have hold1:OldX (at' (j.com1 ws).1.l (1-j.k)) j.s:=by
   rw[hg1 _ (by omega),lastP_none _ _ _ (hno _ (.inl (by omega))),hlowp _ (by omega)]
   exact h.old
  have hw2:∀w∈[(j.place 0,headL j.next ws)],w.1<(j.com1 ws).1.l.length∧w.2.length=256:=by
   intro w hx;rw[List.mem_singleton] at hx;subst hx
   exact⟨by have:=(hla 0).2;show j.place 0<_;omega,headL_length _ _ hw.2.1⟩
  have hg2:∀cc i,at' (tornW (j.com1 ws).1.l (j.place 0,headL j.next ws) cc) i=if j.place 0=i then(headL j.next ws).take cc++(at' (j.com1 ws).1.l i).drop cc else at' (j.com1 ws).1.l i:=fun cc i=>tornW_get _ _ _ _ (hw2 _ (List.mem_singleton.2 rfl)).1
  have hso:=hrec1.ok.1
  have hfull:∀cc,256≤cc→RecS (tornW (j.com1 ws).1.l (j.place 0,headL j.next ws) cc) j.s j.k (fr++[ws]) (updC C ws):=fun cc hcc=>by
   have hnext:(nextS j.s (fr++[ws])).Ok:=by
    have:=hrec1.hmax
    have:=Nat.mod_lt (j.s.place+usedF 0 (fr++[ws])) (show 0<j.s.log by omega)
    refine⟨?_,?_,?_,?_⟩
    ·show j.s.e+1<_;omega
    ·show j.s.s+(fr++[ws]).length<_;rw[List.length_append,List.length_singleton];omega
    ·show j.s.log<_;omega
    ·show(j.s.place+usedF 0 (fr++[ws]))%j.s.log<_;omega
   have hoth:∀i,i≠j.place 0→at' (tornW (j.com1 ws).1.l (j.place 0,headL j.next ws) cc) i=at' (j.com1 ws).1.l i:=fun i hi=>by rw[hg2,if_neg (Ne.symm hi)]
   have hhead:at' (tornW (j.com1 ws).1.l (j.place 0,headL j.next ws) cc) (j.place 0)=headL j.next ws:=by
    rw[hg2,if_pos rfl,List.take_of_length_le (by rw[headL_length _ _ hw.2.1];exact hcc),List.drop_of_length_le (by rw[hend0,noughts_len];exact hcc),List.append_nil]
   refine⟨by rw[tornW_length];exact hrec1.hmax,tornW_all _ _ _ hok1.l (hw2 _ (List.mem_singleton.2 rfl)).1 (hw2 _ (List.mem_singleton.2 rfl)).2,hleast,by rw[tornW_length];omega,hr.hplace,hr.he,by rw[List.length_append,List.length_singleton];omega,hk,?_,?_,?_,?_⟩
   ·rw[hoth _ (by have:=(hla 0).1;omega)];exact hrec1.hslot
   ·rw[hoth _ (by have:=(hla 0).1;omega)]
    exact hold1.other hnext (by show j.s.e≤j.s.e+1;omega)
   ·refine Chain.snoc (tornW_length _ _ _) ws hw (fun w hx=>by rw[hlen,hlg];exact hh w hx) hrec1.hchain (fun m hm=>hoth _ (fun e=>?_)) (by omega) (fun i hi=>?_) ?_
    ·rw[hpl] at e
     have:=logAt_inj j.s hr.hplace m (usedF 0 fr+0) (by omega) (by omega) e
     omega
    ·rw[←hpl,←hn]
     cases i with
     | zero=>rw[hhead];rfl
     | succ i =>
      rw[hoth _ (fun e=>by have:=hinj (i+1) 0 (by omega) (by omega) e;omega),hbody i (by omega)]
      unfold packL
      rw[List.getD_cons_succ,List.getD_eq_getElem?_getD,List.getD_eq_getElem?_getD,List.getElem?_append_left (by simp;omega)]
    ·have:=hpl (ws.length+1)
     rw[←Nat.add_assoc] at this
     rw[←this,hoth _ (fun e=>by have:=hinj (ws.length+1) 0 (by omega) (by omega) e;omega),hbody ws.length (Nat.le_refl _)]
     rw[List.getD_eq_getElem?_getD,List.getElem?_append_right (by simp)]
     simp only[List.length_map,Nat.sub_self,List.getElem?_cons_zero,Option.getD_some]
     exact noughts_end
   ·intro i h1 h2
    rw[tornW_length] at h2
    rw[hoth i (by have:=(hla 0).2;omega),hhome i h1 h2,flatten_snoc,lastP_append]
    unfold updC
    by_cases hx:∃w∈fr.flatten,w.1=i
    ·congr 1
     rw[lastP_some _ _ _ (at' (j.com1 ws).1.l i) hx]
     exact hrec1.hhome i h1 h2
    ·rw[lastP_none _ _ _ (fun w hw e=>hx ⟨w,hw,e⟩)]
  have htorn:∀cc,cc<256→RecS (tornW (j.com1 ws).1.l (j.place 0,headL j.next ws) cc) j.s j.k fr C:=fun cc hcc=>by
   have hoth:∀i,i≠j.place 0→at' (tornW (j.com1 ws).1.l (j.place 0,headL j.next ws) cc) i=at' (j.com1 ws).1.l i:=fun i hi=>by rw[hg2,if_neg (Ne.symm hi)]
   refine⟨by rw[tornW_length];exact hrec1.hmax,tornW_all _ _ _ hok1.l (hw2 _ (List.mem_singleton.2 rfl)).1 (hw2 _ (List.mem_singleton.2 rfl)).2,hleast,by rw[tornW_length];omega,hr.hplace,hr.he,hr.hs,hk,?_,?_,?_,?_⟩
   ·rw[hoth _ (by have:=(hla 0).1;omega)];exact hrec1.hslot
   ·rw[hoth _ (by have:=(hla 0).1;omega)];exact hrec1.hother
   ·refine hrec1.hchain.ext (tornW_length _ _ _) (fun m hm=>hoth _ (fun e=>?_)) ?_
    ·rw[hpl] at e
     have:=logAt_inj j.s hr.hplace m (usedF 0 fr+0) (by omega) (by omega) e
     omega
    ·have:=hpl 0
     rw[Nat.add_zero] at this
     rw[←this,hg2,if_pos rfl,hend0]
     exact torn_end _ (headL_length _ _ hw.2.1) cc hcc
   ·intro i h1 h2
    rw[tornW_length] at h2
    rw[hoth i (by have:=(hla 0).2;omega)]
    exact hrec1.hhome i h1 h2
  rcases DevL.lays_run _ (j.com1 ws).1 hb hw2 with ⟨a2,b2,c2,e2⟩|⟨a2,b2,c2,k2,e2⟩
  ·have a2':(j.com2 ws).2=0:=a2
   rw[if_neg (by rw[a2'];simp)]
   have hok2:(j.com2 ws).1.Ok:=DevL.lays_ok hok1 _
   have hb2:(j.com2 ws).1.dead=false:=b2
   have hl2:(j.com2 ws).1.l=tornW (j.com1 ws).1.l (j.place 0,headL j.next ws) 256:=by
    have:(j.com2 ws).1.l=layP (j.com1 ws).1.l ((j.com1 ws).1.p++[(j.place 0,headL j.next ws)]):=c2
    rw[this,hp,List.nil_append,layP_one _ _ (hw2 _ (List.mem_singleton.2 rfl)).1 hok1.l (hw2 _ (List.mem_singleton.2 rfl)).2]
   have hp2:(j.com2 ws).1.p=[]:=e2
   have hlen2:(j.com2 ws).1.l.length=j.d.l.length:=by rw[hl2,tornW_length,hlen]
   have hrec2:RecS (j.com2 ws).1.l j.s j.k (fr++[ws]) (updC C ws):=by rw[hl2];exact hfull 256 (Nat.le_refl _)
   have hoth:∀i,i≠j.place 0→at' (j.com2 ws).1.l i=at' (j.com1 ws).1.l i:=fun i hi=>by rw[hl2,hg2,if_neg (Ne.symm hi)]
   have hw3:∀w∈ws,w.1<(j.com2 ws).1.l.length∧w.2.length=256:=fun w hx=>⟨by rw[hlen2];exact(hh w hx).2,(hw.2.2 w hx).2⟩
   have hall3:∀w∈ws,Allowed j.s (fr++[ws]) w:=fun w hx=>.inl ⟨by have:=(hh w hx).1;omega,w,by rw[flatten_snoc];exact List.mem_append_right _ hx,rfl⟩
   rcases DevL.writes_run ws (j.com2 ws).1 hb2 hw3 with ⟨a3,b3,c3,e3⟩|⟨a3,b3,c3,k3,e3⟩
   ·left
    have hl3:(j.com3 ws).1.l=(j.com2 ws).1.l:=c3
    have hp3:(j.com3 ws).1.p=ws:=by
     have:(j.com3 ws).1.p=(j.com2 ws).1.p++ws:=e3
     rw[this,hp2,List.nil_append]
    refine⟨a3,⟨⟨DevL.writes_ok hok2 ws,b3,?_,hlg,by show j.s.e≤_;omega,?_,?_,?_,?_,?_⟩,?_,?_,by show(j.com3 ws).1.p.length≤48;rw[hp3];exact hw.2.1⟩,?_⟩
    ·show RecS (j.com3 ws).1.l j.s j.k (fr++[ws]) (updC C ws)
     rw[hl3];exact hrec2
    ·show(j.next+1)%_=j.s.s+(fr++[ws]).length
     rw[List.length_append,List.length_singleton,Nat.mod_eq_of_lt (by omega)];omega
    ·show(j.next+1)%_≤_
     rw[Nat.mod_eq_of_lt (by omega)];omega
    ·show j.used+ws.length+1=_
     rw[usedF_snoc,hus]
    ·intro w hx
     have hx':w∈ws:=by rw[←hp3];exact hx
     exact⟨(hh w hx').1,w,by rw[flatten_snoc];exact List.mem_append_right _ hx',rfl⟩
    ·intro i h1 h2
     show(j.com3 ws).1.get i=_
     unfold DevL.get
     rw[hp3,hl3]
     show lastP ws i (at' (j.com2 ws).1.l i)=updC C ws i
     have h2':i<(j.com2 ws).1.l.length:=by rw[←hl3];exact h2
     rw[hoth i (by have:=(hla 0).2;omega),hhome i (by omega) (by omega)]
     rfl
    ·show OldX (at' (j.com3 ws).1.l (1-j.k)) j.s
     rw[hl3,hoth _ (by have:=(hla 0).1;omega)];exact hold1
    ·show at' (j.com3 ws).1.l (logAt j.s (j.used+ws.length+1))=noughtsL
     have:=hpl (ws.length+1)
     rw[hus,hl3,Nat.add_assoc,←this,hoth _ (fun e=>by have:=hinj (ws.length+1) 0 (by omega) (by omega) e;omega),hbody ws.length (Nat.le_refl _)]
     rw[List.getD_eq_getElem?_getD,List.getElem?_append_right (by simp)]
     simp
    ·show(j.com3 ws).1.l.length=_
     rw[hl3,hlen2]
   ·right
    refine⟨a3,b3,DevL.writes_ok hok2 ws,?_⟩
    intro l' hi
    have hl3:(j.com3 ws).1.l=(j.com2 ws).1.l:=c3
    have hp3:(j.com3 ws).1.p=ws.take k3:=by
     have:(j.com3 ws).1.p=(j.com2 ws).1.p++ws.take k3:=e3
     rw[this,hp2,List.nil_append]
    have hi':Img (j.com2 ws).1.l (ws.take k3) l':=by rw[←hl3,←hp3];exact hi
    refine⟨_,.inr rfl,j.s,j.k,fr++[ws],hrec2.img (fun w hx=>hw3 w (take_mem hx)) (fun w hx=>hall3 w (take_mem hx)) hi',hlg,by omega,?_⟩
    rw[List.length_append,List.length_singleton];omega
  ·right
   have a2':(j.com2 ws).2=4:=a2
   rw[if_pos (by rw[a2'];decide)]
   refine⟨a2',b2,DevL.lays_ok hok1 _,?_⟩
   intro l' hi
   have hl2:(j.com2 ws).1.l=(j.com1 ws).1.l:=c2
   have hp2:(j.com2 ws).1.p=[(j.place 0,headL j.next ws)].take k2:=by
    have:(j.com2 ws).1.p=(j.com1 ws).1.p++[(j.place 0,headL j.next ws)].take k2:=e2
    rw[this,hp,List.nil_append]
   have hi':Img (j.com1 ws).1.l ([(j.place 0,headL j.next ws)].take k2) l':=by rw[←hl2,←hp2];exact hi
   rcases img_take_one hi' with rfl|⟨cc,rfl⟩
   ·exact⟨_,.inl rfl,j.s,j.k,fr,hrec1,hlg,by omega,by omega⟩
   ·by_cases hcc:cc<256
    ·exact⟨_,.inl rfl,j.s,j.k,fr,htorn cc hcc,hlg,by omega,by omega⟩
    ·exact⟨_,.inr rfl,j.s,j.k,fr++[ws],hfull cc (by omega),hlg,by omega,by rw[List.length_append,List.length_singleton];omega⟩
 ·right
  have a':(j.com1 ws).2=4:=a
  rw[if_pos (by rw[a'];decide)]
  exact⟨a',b,DevL.lays_ok h.ok _,(h.toJPre.safe_more _ (fun w hx=>hall1 w (take_mem hx)) (j.com1 ws).1 c e).mono (by omega) (fun _ h=>.inl h)⟩
theorem JPre.mono{lg K K':Nat}{j:JL}{fr:List (List WrL)}{C:Nat→Bytes}(h:JPre lg K j fr C)(hk:K≤K'):JPre lg K' j fr C :=
 ⟨h.ok,h.live,h.hrec,h.hlog,Nat.le_trans h.he hk,h.hnext,Nat.le_trans h.hnextK hk,h.hused,h.pend,h.get⟩
theorem JInv.mono{lg K K':Nat}{j:JL}{fr:List (List WrL)}{C:Nat→Bytes}(h:JInv lg K j fr C)(hk:K≤K'):JInv lg K' j fr C :=
 ⟨h.toJPre.mono hk,h.old,h.hend,h.plen⟩
theorem DevL.lays_len(d:DevL)(ws:List WrL):(d.lays ws).1.l.length=d.l.length:=by
 unfold DevL.lays
 split
 ·rw[DevL.flush_len,DevL.writes_len]
 ·exact DevL.writes_len _ _
theorem JL.ckpt_len(j:JL):j.ckpt.1.d.l.length=j.d.l.length:=by
 unfold JL.ckpt JL.ckpt2 JL.ckpt1
 split
 ·exact DevL.lays_len _ _
 ·split
  ·show(DevL.lays _ _).1.l.length=_
   rw[DevL.lays_len,DevL.lays_len]
  ·show(DevL.lays _ _).1.l.length=_
   rw[DevL.lays_len,DevL.lays_len]
theorem JL.com_len(j:JL)(ws:List WrL):(j.com ws).1.d.l.length=j.d.l.length:=by
 unfold JL.com JL.com3 JL.com2 JL.com1
 split
 ·exact DevL.lays_len _ _
 ·split
  ·show(DevL.lays _ _).1.l.length=_
   rw[DevL.lays_len,DevL.lays_len]
  ·show(DevL.writes _ _).1.l.length=_
   rw[DevL.writes_len,DevL.lays_len,DevL.lays_len]
theorem JL.commit_len(j:JL)(ws:List WrL):(j.commit ws).1.d.l.length=j.d.l.length:=by
 unfold JL.commit
 split
 ·split
  ·exact j.ckpt_len
  ·rw[JL.com_len,j.ckpt_len]
 ·exact j.com_len ws
theorem commit_run{lg K:Nat}{j:JL}{fr:List (List WrL)}{C:Nat→Bytes}(h:JInv lg K j fr C)(ws:List WrL)(hw:WrOk ws)(hh:∀w∈ws,2+lg≤w.1∧w.1<j.d.l.length)(hK:K+4<18446744073709551616):
  ((j.commit ws).2=0∧∃fr',JInv lg (K+2) (j.commit ws).1 fr' (updC C ws)) ∨
  ((j.commit ws).2=4∧(j.commit ws).1.d.dead=true∧(j.commit ws).1.d.Ok∧Safe lg (K+2) (j.commit ws).1.d (fun D=>D=C∨D=updC C ws)):=by
 have hlg:=h.hlog
 have hleast:=h.hrec.hleast
 unfold JL.commit
 by_cases hroom:ws.length+2>j.s.log-j.used
 ·rw[if_pos hroom]
  rcases ckpt_run h.toJPre (by omega) with ⟨a,b,c,_⟩|⟨a,b,c,e,_⟩
  ·rw[if_neg (by rw[a];simp)]
   have hl:=j.ckpt_len
   have hu:=b.hused
   rcases com_run b ws hw (fun w hx=>by rw[hl];exact hh w hx) (by rw[hu];show _≤lg-0;have:=hw.2.1;omega) (by omega) with ⟨a2,b2,_⟩|⟨a2,b2,c2,e2⟩
   ·exact .inl ⟨a2,_,b2⟩
   ·exact .inr ⟨a2,b2,c2,e2⟩
  ·rw[if_pos (by rw[a];decide)]
   exact .inr ⟨a,b,c,e.mono (by omega) (fun _ h=>.inl h)⟩
 ·rw[if_neg hroom]
  rcases com_run h ws hw hh (by omega) (by omega) with ⟨a2,b2,_⟩|⟨a2,b2,c2,e2⟩
  ·exact .inl ⟨a2,_,b2.mono (by omega)⟩
  ·exact .inr ⟨a2,b2,c2,e2.mono (by omega) (fun _ h=>h)⟩
theorem read_frame(f:Nat→Bytes)(P:List Bytes)(m:Nat)(h:P.length≤m)(hf:∀i,i<P.length→f i=P.getD i []):∃r,(List.range m).map f=P++r:=by
 refine⟨((List.range m).map f).drop P.length,?_⟩
 have e:P=((List.range m).map f).take P.length:=by
  refine List.ext_getElem (by simp;omega) (fun i h1 h2=>?_)
  simp only[List.getElem_take,List.getElem_map,List.getElem_range]
  rw[hf i h1,List.getD_eq_getElem?_getD,List.getElem?_eq_getElem h1];rfl
 conv=>rhs;rw[e]
 rw[List.length_take,List.length_map,List.length_range,Nat.min_eq_left h,List.take_append_drop]
theorem get_low{d:DevL}{lo:Nat}(hp:∀w∈d.p,lo≤w.1)(i:Nat)(hi:i<lo):d.get i=at' d.l i:=lastP_none _ _ _ (fun w hw e=>by have:=hp w hw;omega)
theorem frame_cons{j:JL}{ws:List WrL}{fr:List (List WrL)}(hl:50≤j.s.log)(hc:Chain j.d.l j.s j.used j.next (ws::fr))(hn:j.next<18446744073709551616)(hp:∀w∈j.d.p,2+j.s.log≤w.1):j.frame=some ws:=by
 obtain⟨h1,h2,h3,h4,_⟩:=hc
 have hlen:(packL j.next ws).length=ws.length+1:=by simp[packL]
 obtain⟨r,hr⟩:=read_frame (fun i=>j.d.get (j.place i)) (packL j.next ws) (min (j.s.log-j.used) 49) (by rw[hlen];have:=h1.2.1;omega) (fun i hi=>by
  show j.d.get (logAt j.s (j.used+i))=_
  rw[hlen] at hi
  rw[get_low hp _ (logAt_lt j.s _ (by omega)).2]
  exact h4 i (by omega))
 unfold JL.frame
 rw[hr,unpack_pack _ hn _ h1]
 simp only[]
 rw[if_pos ⟨trivial,fun w hw=>h2 w hw⟩]
theorem frame_nil{j:JL}(hl:50≤j.s.log)(hc:Chain j.d.l j.s j.used j.next [])(hp:∀w∈j.d.p,2+j.s.log≤w.1):j.frame=none:=by
 obtain⟨h1,h2⟩:=hc
 obtain⟨m,hm⟩:∃m,min (j.s.log-j.used) 49=m+1:=⟨min (j.s.log-j.used) 49-1,by omega⟩
 have e:unpackL ((List.range (min (j.s.log-j.used) 49)).map fun i=>j.d.get (j.place i))=none:=by
  rw[hm,List.range_succ_eq_map,List.map_cons]
  refine unpack_none _ _ ?_
  show(j.d.get (logAt j.s (j.used+0))).drop 252≠endT
  rw[get_low hp _ (logAt_lt j.s _ (by omega)).2]
  exact h2
 unfold JL.frame
 rw[e]
theorem usedF_len(u:Nat)(fr:List (List WrL)):u+fr.length≤usedF u fr:=by
 induction fr generalizing u with
 | nil=>exact Nat.le_refl _
 | cons ws fr ih=>rw[usedF_cons,List.length_cons];have:=ih (u+ws.length+1);omega
structure OpenPre (lg K:Nat) (d:DevL) (s:SlotL) (k:Nat) (fr:List (List WrL)) (C:Nat→Bytes):Prop where
 ok:d.Ok
 live:d.dead=false
 hrec:RecS d.l s k fr C
 hlog:s.log=lg
 he:s.e≤K
 hs:s.s+fr.length≤K
 pend:∀w∈d.p,2+lg≤w.1∧∃x∈fr.flatten,x.1=w.1
structure Mid (lg K:Nat) (d:DevL) (j:JL) (s:SlotL) (k:Nat) (fr1 fr2:List (List WrL)):Prop where
 ok:j.d.Ok
 live:j.d.dead=false
 hl:j.d.l=d.l
 hp:j.d.p=d.p++fr1.flatten
 hs:j.s=s
 hk:j.k=k
 hn:j.next=s.s+fr1.length
 hu:j.used=usedF 0 fr1
 hc:Chain d.l s (usedF 0 fr1) (s.s+fr1.length) fr2
 hf:d.fuse = -1→j.d.fuse = -1
theorem replay_run{lg K:Nat}{d:DevL}{s:SlotL}{k:Nat}{fr:List (List WrL)}{C:Nat→Bytes}(h:OpenPre lg K d s k fr C)(hK:K+3<18446744073709551616)(m:Nat):
  ∀(fr2 fr1:List (List WrL)) (j:JL),fr=fr1++fr2→Mid lg K d j s k fr1 fr2→fr2.length<m →
   ((JL.replay m j).2=0∧JPre lg K (JL.replay m j).1 fr C∧(d.fuse = -1→(JL.replay m j).1.d.fuse = -1)) ∨
   ((JL.replay m j).2=4∧(JL.replay m j).1.d.dead=true∧(JL.replay m j).1.d.Ok∧Safe lg K (JL.replay m j).1.d (·=C)∧d.fuse ≠ -1):=by
 induction m with
 | zero=>intro fr2 fr1 j _ _ hlt;omega
 | succ m ih =>
  intro fr2 fr1 j hfr M hlt
  have hr:=h.hrec
  have hlog:=h.hlog
  have hpend:∀w∈j.d.p,2+lg≤w.1∧∃x∈fr.flatten,x.1=w.1:=fun w hw=>by
   rw[M.hp] at hw
   rcases List.mem_append.1 hw with hw|hw
   ·exact h.pend w hw
   ·obtain⟨ws,hws,hww⟩:=List.mem_flatten.1 hw
    have:=(hr.hchain.ok ws (by rw[hfr];exact List.mem_append_left _ hws)).2 w hww
    exact⟨by omega,w,by rw[hfr,List.flatten_append];exact List.mem_append_left _ hw,rfl⟩
  have hpl:∀w∈j.d.p,2+j.s.log≤w.1:=fun w hw=>by rw[M.hs,hlog];exact(hpend w hw).1
  have hsn:=h.hs
  have hlen:fr.length=fr1.length+fr2.length:=by rw[hfr,List.length_append]
  cases fr2 with
  | nil =>
   have hfr':fr=fr1:=by rw[hfr,List.append_nil]
   rw[JL.replay,frame_nil (by rw[M.hs];exact hr.hleast) (by rw[M.hl,M.hs,M.hu,M.hn];exact M.hc) hpl]
   left
   refine⟨rfl,⟨M.ok,M.live,?_,by rw[M.hs];exact hlog,by rw[M.hs];exact h.he,by rw[M.hn,M.hs,hfr'],by rw[M.hn];rw[hlen] at hsn;omega,by rw[M.hu,hfr'],hpend,?_⟩,M.hf⟩
   ·rw[M.hl,M.hs,M.hk];exact hr
   ·intro i h1 h2
    rw[M.hl] at h2
    unfold DevL.get
    rw[M.hl,M.hp,lastP_append,←hfr']
    by_cases hx:∃x∈fr.flatten,x.1=i
    ·rw[lastP_some _ _ _ (at' d.l i) hx]
     exact hr.hhome i (by omega) h2
    ·rw[lastP_none d.p i _ (fun w hw e=>by
      obtain⟨x,hx1,hx2⟩:=(h.pend w hw).2
      exact hx ⟨x,hx1,hx2.trans e⟩)]
     exact hr.hhome i (by omega) h2
  | cons ws fr2 =>
   have hc:=M.hc
   have hcc:Chain j.d.l j.s j.used j.next (ws::fr2):=by rw[M.hl,M.hs,M.hu,M.hn];exact hc
   rw[List.length_cons] at hlen hlt
   rw[JL.replay,frame_cons (by rw[M.hs];exact hr.hleast) hcc (by rw[M.hn];omega) hpl]
   simp only[]
   have hw:∀w∈ws,w.1<j.d.l.length∧w.2.length=256:=fun w hx=>⟨by rw[M.hl];exact(hc.2.1 w hx).2,(hc.1.2.2 w hx).2⟩
   rcases DevL.writes_run ws j.d M.live hw with ⟨a,b,c,e⟩|⟨a,b,c,q,e⟩
   ·rw[if_pos a]
    refine ih fr2 (fr1++[ws]) _ (by rw[hfr,List.append_assoc];rfl) ⟨DevL.writes_ok M.ok ws,b,c.trans M.hl,?_,M.hs,M.hk,?_,?_,?_,fun hf=>(DevL.writes_free ws j.d M.live (M.hf hf) hw).2⟩ (by omega)
    ·show(j.d.writes ws).1.p=_
     rw[e,M.hp,flatten_snoc,List.append_assoc]
    ·show(j.next+1)%_=_
     rw[M.hn,List.length_append,List.length_singleton,Nat.mod_eq_of_lt (by omega)];omega
    ·show j.used+ws.length+1=_
     rw[usedF_snoc,M.hu]
    ·rw[usedF_snoc,List.length_append,List.length_singleton]
     exact hc.2.2.2.2
   ·rw[if_neg (by rw[a];decide)]
    right
    refine⟨a,b,DevL.writes_ok M.ok ws,?_,fun hf=>?_⟩
    ·intro l' hi
     have hl:(j.d.writes ws).1.l=d.l:=c.trans M.hl
     have hi':Img d.l (j.d.p++ws.take q) l':=by rw[←hl,←e];exact hi
     refine⟨C,rfl,s,k,fr,hr.img (fun w hx=>?_) (fun w hx=>?_) hi',hlog,h.he,h.hs⟩
     ·rcases List.mem_append.1 hx with hx|hx
      ·rw[←M.hl];exact M.ok.p w hx
      ·rw[←M.hl];exact hw w (take_mem hx)
     ·rcases List.mem_append.1 hx with hx|hx
      ·exact .inl (by rw[hlog];exact hpend w hx)
      ·refine .inl ⟨(hc.2.1 w (take_mem hx)).1,w,?_,rfl⟩
       rw[hfr,List.flatten_append,List.flatten_cons]
       exact List.mem_append_right _ (List.mem_append_left _ (take_mem hx))
    ·have:=(DevL.writes_free ws j.d M.live (M.hf hf) hw).1
     rw[this] at a;exact absurd a (by decide)
theorem open_run{lg K:Nat}{d:DevL}{s:SlotL}{k:Nat}{fr:List (List WrL)}{C:Nat→Bytes}(h:OpenPre lg K d s k fr C)(hK:K+3<18446744073709551616):
  ((openJ d).2=0∧JInv lg (K+1) (openJ d).1 [] C∧(openJ d).1.d.p=[]∧(d.fuse = -1→(openJ d).1.d.fuse = -1)) ∨
  ((openJ d).2=4∧(openJ d).1.d.dead=true∧(openJ d).1.d.Ok∧Safe lg (K+1) (openJ d).1.d (·=C)∧d.fuse ≠ -1):=by
 have hr:=h.hrec
 have hlog:=hr.hlog;have hleast:=hr.hleast
 have hpick:=hr.pick
 have hg0:d.get 0=at' d.l 0:=get_low (fun w hw=>(h.pend w hw).1) 0 (by omega)
 have hg1:d.get 1=at' d.l 1:=get_low (fun w hw=>(h.pend w hw).1) 1 (by have:=h.hlog;omega)
 have hu:=hr.hchain.used
 have hul:=usedF_len 0 fr
 unfold openJ
 rw[h.live,if_neg (by decide),hg0,hg1,hpick]
 simp only[]
 have M:Mid lg K d ⟨d,s,k,s.s,0⟩ s k [] fr:=⟨h.ok,h.live,rfl,by simp,rfl,rfl,by simp,rfl,hr.hchain,fun h=>h⟩
 rcases replay_run h hK (s.log+1) fr [] _ rfl M (by omega) with ⟨a,b,c⟩|⟨a,b,c,e,f⟩
 ·rw[if_pos a]
  rcases ckpt_run b (by omega) with ⟨a2,b2,c2,e2⟩|⟨a2,b2,c2,e2,f2⟩
  ·exact .inl ⟨a2,b2,c2,fun hf=>e2 (c hf)⟩
  ·exact .inr ⟨a2,b2,c2,e2,fun hf=>f2 (c hf)⟩
 ·rw[if_neg (by rw[a];decide)]
  exact .inr ⟨a,b,c,e.mono (by omega) (fun _ h=>h),f⟩
theorem crash_open{lg K:Nat}{d:DevL}{S:(Nat→Bytes)→Prop}(hd:d.Ok)(h:Safe lg K d S)(keep:List Bool)(torn cut:Int)(f:Int)(hf : -1≤f)(hf2:f≤9223372036854775807):∃C,S C∧∃s k fr,OpenPre lg K { d.crash keep torn cut with fuse:=f } s k fr C:=by
 obtain⟨C,hC,s,k,fr,h1,h2,h3,h4⟩:=h _ (crash_img hd keep torn cut)
 have ho:=DevL.crash_ok hd keep torn cut
 exact⟨C,hC,s,k,fr,⟨ho.pos,ho.max,ho.l,ho.p,hf,hf2⟩,rfl,h1,h2,h3,h4,fun w hw=>by simp[DevL.crash] at hw⟩
theorem JPre.open{lg K:Nat}{j:JL}{fr:List (List WrL)}{C:Nat→Bytes}(h:JPre lg K j fr C):OpenPre lg K j.d j.s j.k fr C :=
 ⟨h.ok,h.live,h.hrec,h.hlog,h.he,by rw[←h.hnext];exact h.hnextK,h.pend⟩
end
section
open Go.RowKit
def jcells(b:Nat)(j:JL):Array Value:=#[ptrV b,.int .u64 (j.s.e:Nat),.int .u64 (j.s.s:Nat),.int .i64 (j.s.log:Nat),.int .i64 (j.s.place:Nat),.int .i64 (j.k:Nat),.int .u64 (j.next:Nat),.int .i64 (j.used:Nat)]
structure JrnAt (w:World) (F:Nat→Prop) (p b:Nat) (j:JL):Prop where
 box:Blk w p 110 (jcells b j)
 fp:F p
 dev:DevAt w F b j.d
 lt:∀k,F k→k<w.heap.size
theorem JrnAt.mono{w:World}{F G:Nat→Prop}{p b:Nat}{j:JL}(h:JrnAt w F p b j)(k:∀i,F i→G i)(hl:∀i,G i→i<w.heap.size):JrnAt w G p b j:=⟨h.box,k _ h.fp,h.dev.mono k,hl⟩
theorem JrnAt.beside{w w':World}{F G:Nat→Prop}{p b:Nat}{j:JL}(h:JrnAt w F p b j)(t:Turn G w w')(hd:∀k,F k→¬G k):JrnAt w' F p b j:=⟨t.blk h.box (hd _ h.fp),h.fp,h.dev.beside t hd,fun k hk=>Nat.lt_of_lt_of_le (h.lt k hk) t.size⟩
structure JNum (j:JL):Prop where
 log:0<j.s.log
 log2:j.s.log≤1000000
 place:j.s.place≤1000000
 used:j.used≤1000000
 e:j.s.e<18446744073709551616
 s:j.s.s<18446744073709551616
 next:j.next<18446744073709551616
 k:j.k≤1
 ok:j.d.Ok
 plen:j.d.dead=false→j.d.p.length≤900000
theorem JNum.slot{j:JL}(h:JNum j):j.s.Ok:=⟨h.e,h.s,by have:=h.log2;omega,by have:=h.place;omega⟩
theorem JNum.nslot{j:JL}(h:JNum j):j.nextSlot.Ok:=by
 have h1:=h.log2;have h2:=h.log
 have:=Nat.mod_lt (j.s.place+j.used) h2
 exact⟨Nat.mod_lt _ (by decide),h.next,by show j.s.log<_;omega,by show(j.s.place+j.used)%j.s.log<_;omega⟩
theorem JrnAt.keep{w w':World}{F:Nat→Prop}{p b:Nat}{j:JL}(h:JrnAt w F p b j)(q:Q w w'):JrnAt w' F p b j:=h.beside (Turn.of_q (own:=fun _=>False) q) (fun _ _=>id)
theorem Blk.c8{w:World}{k:Nat}{t:TypeId}{a0 a1 a2 a3 a4 a5 a6 a7:Value}(h:Blk w k t #[a0,a1,a2,a3,a4,a5,a6,a7]):
  w.cell? ⟨k,0,none⟩=some a0∧w.cell? ⟨k,1,none⟩=some a1∧w.cell? ⟨k,2,none⟩=some a2∧w.cell? ⟨k,3,none⟩=some a3∧w.cell? ⟨k,4,none⟩=some a4∧w.cell? ⟨k,5,none⟩=some a5∧w.cell? ⟨k,6,none⟩=some a6∧w.cell? ⟨k,7,none⟩=some a7 :=
 ⟨h.cell 0 _ rfl,h.cell 1 _ rfl,h.cell 2 _ rfl,h.cell 3 _ rfl,h.cell 4 _ rfl,h.cell 5 _ rfl,h.cell 6 _ rfl,h.cell 7 _ rfl⟩
theorem SlO.lit{w:World}{F:Nat→Prop}(cs:Array Value)(e:TypeId)(n size:Nat)(h:cs.size=n*size)(hF:¬F w.heap.size):SlO (w.alloc (.cells cs e)) F (.slice (some ⟨w.heap.size,0,none⟩) n n) n size cs.toList :=
 ⟨Sl.lit w cs e n size h,fun _=>⟨_,_,⟨_,rfl⟩,by simp,hF⟩⟩
theorem SlO.value{w:World}{F:Nat→Prop}{v:Value}{n size:Nat}{xs:List Value}(h:SlO w F v n size xs):∃a cap,v=.slice a n cap∧(0<n→∃b off,a=some ⟨b,off,none⟩∧b<w.heap.size∧¬F b∧∀j u,xs[j]?=some u→w.cell? ⟨b,off+j,none⟩=some u):=by
 obtain⟨⟨_,a,cap,rfl,hc⟩,hF⟩:=h
 refine⟨a,cap,rfl,fun hn=>?_⟩
 obtain⟨kb,ko,rfl,hcell⟩:=hc hn
 obtain⟨b,off,⟨cap',e⟩,hb,hFb⟩:=hF hn
 simp only[Value.slice.injEq,Option.some.injEq,Addr.mk.injEq] at e
 obtain⟨⟨rfl,_,_⟩,_⟩:=e
 exact⟨_,_,rfl,hb,hFb,hcell⟩
theorem Turn.grow{F:Nat→Prop}{A B C:World}(h:Turn F A B)(k:Turn (grow F A B) B C):Turn F A C:=h.step k
structure WrArg (w:World) (F:Nat→Prop) (v:Value) (ws:List WrL):Prop where
 sl:SlO w F v ws.length 2 (wrVs ws)
 num:∀x∈ws,x.1≤9223372036854775807∧x.2.length≤9223372036854775807
theorem Chk_any(w:World)(F:Nat→Prop)(b:Nat)(d:DevL)(i:Int)(h:DevAt w F b d)(hm:d.l.length≤4096):
  Calls Tryz.prog 129 #[ptrV b,.int .i64 i] w fun e w'=>e=.returned (.int .i64 (d.chk i))∧w=w':=by
 obtain⟨g,cap,pv,hb,_,_,_,_,_⟩:=h
 obtain⟨c0,c1,c2,c3,_⟩:=hb.c4
 unfold DevL.chk
 generalize d.dead=dd at *
 generalize d.l.length=n at *
 clear hb
 cases dd with
 | true =>
  simp only[if_true]
  go_enter Tryz.func129,Tryz.ntmps129
  go_wp2
  go_ret
  exact⟨rfl,rfl⟩
 | false =>
  simp only[Bool.false_eq_true,if_false]
  by_cases h0:i<0
  ·have e1:decide (i<0)=true:=decide_eq_true h0
   rw[if_neg (by omega)]
   go_enter Tryz.func129,Tryz.ntmps129
   go_wp2
   go_ret
   exact⟨rfl,rfl⟩
  ·have e1:decide (i<0)=false:=decide_eq_false h0
   by_cases h1:i<n
   ·have e2:decide ((n:Int)≤i)=false:=decide_eq_false (by omega)
    rw[if_pos ⟨by omega,h1⟩]
    go_enter Tryz.func129,Tryz.ntmps129
    go_wp2
    go_ret
    exact⟨rfl,rfl⟩
   ·have e2:decide ((n:Int)≤i)=true:=decide_eq_true (by omega)
    rw[if_neg (by omega)]
    go_enter Tryz.func129,Tryz.ntmps129
    go_wp2
    go_ret
    exact⟨rfl,rfl⟩
theorem BTurn_any(w:World)(F:Nat→Prop)(b g cap:Nat)(pv:Value)(d:DevL)(h:DevG w F b g cap pv d)(hf : -1≤d.fuse)(hf1:d.fuse≤9223372036854775807):
  Calls Tryz.prog 166 #[ptrV b] w fun e w'=>e=.returned (.int .i64 (if d.fuse=0 then 4 else 0))∧DevG w' F b g cap pv d.turn∧Turn F w w'∧w'.heap.size=w.heap.size:=by
 obtain⟨c0,c1,c2,c3,f0,f1,f2,f3⟩:=h.box.c4
 by_cases h0:d.fuse=0
 ·have e1:(d.fuse==0)=true:=beq_iff_eq.2 h0
  have hd:d.turn={ d with dead:=true }:=by unfold DevL.turn;rw[if_pos h0]
  have hend:=h.dead true
  rw[if_pos h0,hd]
  have hsz:=setCell_size w ⟨b,3,none⟩ (.bool true)
  have HE:=Lib.hid hend;have HS:=Lib.hid hsz
  clear h hend hd hsz
  go_enter Tryz.func166,Tryz.ntmps166
  go_wp2
  go_ret
  exact⟨rfl,HE.out.1,HE.out.2,HS.out⟩
 ·rcases Int.lt_or_le (d.fuse-1) (-1) with hm|hm
  ·have e1:(d.fuse==0)=false:=beq_eq_false_iff_ne.2 h0
   have hd:d.turn={ d with fuse := -1 }:=by unfold DevL.turn;rw[if_neg h0,show max (d.fuse-1) (-1) = -1 by omega]
   have hend:=h.fuse (-1)
   rw[if_neg h0,hd]
   have hsz:=setCell_size w ⟨b,2,none⟩ (.int .i64 (-1))
   have HE:=Lib.hid hend;have HS:=Lib.hid hsz
   clear h hend hd hsz
   go_enter Tryz.func166,Tryz.ntmps166
   go_wp2
   go_ret
   exact⟨rfl,HE.out.1,HE.out.2,HS.out⟩
  ·have e1:(d.fuse==0)=false:=beq_eq_false_iff_ne.2 h0
   have hd:d.turn={ d with fuse:=d.fuse-1 }:=by unfold DevL.turn;rw[if_neg h0,show max (d.fuse-1) (-1)=d.fuse-1 by omega]
   have hend:=h.fuse (d.fuse-1)
   rw[if_neg h0,hd]
   have hsz:=setCell_size w ⟨b,2,none⟩ (.int .i64 (d.fuse-1))
   have HE:=Lib.hid hend;have HS:=Lib.hid hsz
   clear h hend hd hsz
   go_enter Tryz.func166,Tryz.ntmps166
   go_wp2
   go_ret
   exact⟨rfl,HE.out.1,HE.out.2,HS.out⟩
theorem Dead_any(w:World)(F:Nat→Prop)(b:Nat)(d:DevL)(h:DevAt w F b d):
  Calls Tryz.prog 10 #[ptrV b] w fun e w'=>e=.returned (.bool d.dead)∧w=w':=by
 obtain⟨g,cap,pv,h⟩:=h
 obtain⟨c0,c1,c2,c3,f0,f1,f2,f3⟩:=h.box.c4
 clear h
 go_enter Tryz.func10,Tryz.ntmps10
 go_wp2
 go_ret
 exact⟨rfl,rfl⟩
theorem Blocks_any(w:World)(F:Nat→Prop)(b:Nat)(d:DevL)(h:DevAt w F b d):
  Calls Tryz.prog 82 #[ptrV b] w fun e w'=>e=.returned (.int .i64 (d.l.length:Nat))∧w=w':=by
 obtain⟨g,cap,pv,h⟩:=h
 obtain⟨c0,c1,c2,c3,f0,f1,f2,f3⟩:=h.box.c4
 clear h
 go_enter Tryz.func82,Tryz.ntmps82
 go_wp2
 go_ret
 exact⟨rfl,rfl⟩
theorem lastP_cut(p:List WrL)(i:Nat)(s:Bytes)(m:Nat)(h:∀j (hj:j<p.length),m≤j→p[j].1≠i):lastP p i s=lastP (p.take m) i s:=by
 conv=>lhs;rw[←List.take_append_drop m p]
 rw[lastP_append]
 refine lastP_none _ _ _ (fun w hw=>?_)
 obtain⟨j,hj,rfl⟩:=List.getElem_of_mem hw
 rw[List.getElem_drop]
 exact h _ _ (by omega)
theorem lastP_hit(p:List WrL)(i:Nat)(s:Bytes)(m:Nat)(hm:m<p.length)(h:∀j (hj:j<p.length),m<j→p[j].1≠i)(he:p[m].1=i):lastP p i s=p[m].2:=by
 rw[lastP_cut p i s (m+1) h,List.take_succ_eq_append_getElem hm,lastP_snoc,if_pos he]
theorem Read_any(w:World)(F:Nat→Prop)(b:Nat)(d:DevL)(i:Int)(h:DevAt w F b d)(hm:d.l.length≤4096)(hp:d.dead=false→d.p.length≤1000000):
  Calls Tryz.prog 84 #[ptrV b,.int .i64 i] w fun e w'=>e=.returned (.tuple #[strV (d.read i).1,.int .i64 (d.read i).2])∧Q w w':=by
 have hc:=Chk_any w F b d i h hm
 by_cases h0:d.chk i=0
 ·have hlive:d.dead=false:=by
   unfold DevL.chk at h0
   cases hx:d.dead with
   | false=>rfl
   | true=>rw[hx] at h0;simp at h0
  obtain⟨i,rfl⟩:∃n:Nat,i=n:=⟨i.toNat,by
   unfold DevL.chk at h0
   rw[hlive] at h0
   simp only[Bool.false_eq_true,if_false] at h0
   split at h0
   ·rename_i hx;omega
   ·exact absurd h0 (by decide)⟩
  have hil:i<d.l.length:=by
   unfold DevL.chk at h0
   rw[hlive] at h0
   simp only[Bool.false_eq_true,if_false] at h0
   split at h0
   ·rename_i hx;omega
   ·exact absurd h0 (by decide)
  have hpl:=hp hlive
  have hrd:d.read i=(lastP d.p i (d.l.getD i []),0):=by unfold DevL.read;rw[if_pos h0];rfl
  rw[hrd]
  rw[h0] at hc
  obtain⟨g,cap,pv,hg⟩:=h
  obtain⟨c0,c1,c2,c3,_⟩:=hg.box.c4
  obtain⟨pa,pc,hpv,hpa⟩:=owns_value hg.row
  have hsl:=Sl.of_owns hg.row
  subst hpv
  have hdisk:w.cell? ⟨g,i,none⟩=some (strV (d.l.getD i [])):=by
   rw[hg.disk.cell i _ (strCs_at d.l i hil),List.getD_eq_getElem?_getD,List.getElem?_eq_getElem hil];rfl
  have hpc:∀m (hm:m<d.p.length),∃g2,pa=some ⟨g2,0,none⟩∧w.cell? ⟨g2,m*2,none⟩=some (.int .i64 (d.p[m].1:Nat))∧w.cell? ⟨g2,m*2+1,none⟩=some (strV d.p[m].2):=fun m hm=>by
   obtain⟨g2,rfl⟩:=hpa (by omega)
   obtain⟨_,a,c,hv,hcc⟩:=hsl
   obtain⟨b2,off,ha,hcell⟩:=hcc (by omega)
   simp only[Value.slice.injEq] at hv
   rw[←hv.1] at ha
   simp only[Option.some.injEq,Addr.mk.injEq] at ha
   obtain⟨rfl,rfl,_⟩:=ha
   have h1:=hcell _ _ (wrVs_at d.p m hm).1
   have h2:=hcell _ _ (wrVs_at d.p m hm).2
   rw[Nat.zero_add] at h1 h2
   exact⟨g2,rfl,h1,h2⟩
  generalize d.l.getD i []=s0 at *
  generalize d.l.length=n at *
  have hcut:=lastP_cut d.p i s0
  have hhit:=lastP_hit d.p i s0
  generalize lastP d.p i s0=sr at *
  generalize d.p=p at *
  have HC:=Lib.hid hc;have HPC:=Lib.hid hpc;have HCUT:=Lib.hid hcut;have HHIT:=Lib.hid hhit
  clear hc hpc hcut hhit hsl hpa hg h0 hp hrd hm
  go_enter Tryz.func84,Tryz.ntmps84
  go_wp2_with fail
  refine HC.out.mono ?_
  rintro e w1 ⟨rfl,rfl⟩
  go_wp2_with fail
  go_loopw [20] (fun v wr=>∃k:Nat,v=.int .i64 (k:Nat)∧k≤p.length∧Hid (∀j (hj:j<p.length),p.length-k≤j→p[j].1≠i)∧Hid (Q w wr)) (fun v _=>p.length-(intOf v).toNat)
  case atStart=>exact⟨0,rfl,Nat.zero_le _,fun j hj hk=>by omega,Q.refl _⟩
  case round =>
   obtain⟨k,rfl,hk2,HK3,HK4⟩:=hrel
   have hk4:=HK4.out
   have d0:=cell_stays hk4 c0;have d1:=cell_stays hk4 c1
   by_cases hlt:k<p.length
   ·have hki:(k:Int)<(p.length:Int):=by omega
    obtain⟨g2,rfl,e1,e2⟩:=HPC.out (p.length-1-k) (by omega)
    have e1':=cell_stays hk4 e1;have e2':=cell_stays hk4 e2
    have hw1:IntKind.i64.wrap ((p.length:Int)-1)=((p.length-1:Nat):Int):=by rw[IntWalk.i64_in _ (by omega)];omega
    have hw2:IntKind.i64.wrap (((p.length-1:Nat):Int)-(k:Int))=((p.length-1-k:Nat):Int):=by rw[IntWalk.i64_in _ (by omega)];omega
    have hml:((p.length-1-k:Nat):Int)<(p.length:Int):=by omega
    have hml0:(0:Int)≤((p.length-1-k:Nat):Int):=by omega
    clear e1 e2 hk4
    go_wp2_with fail
    go_region_held3 (fun w'=>w'.cell? ⟨b,1,none⟩=some (.slice (some ⟨g2,0,none⟩) p.length pc)∧w'.cell? ⟨g2,(p.length-1-k)*2,none⟩=some (.int .i64 (p[p.length-1-k].1:Nat))∧w'.cell? ⟨g2,(p.length-1-k)*2+1,none⟩=some (strV p[p.length-1-k].2))
     (first|exact⟨d1,e1',e2'⟩|exact three (by repeat (first|with_reducible exact Q.refl _|with_reducible apply Qs.dr|with_reducible apply Qs.al|with_reducible refine Qs.st ?_ _ _ (Nat.le_refl _))) d1 e1' e2')
     (fail)
    all_goals
     by_cases hit:p[p.length-1-k].1=i
     ·have hb:(((p[p.length-1-k].1:Nat):Int)==(i:Nat))=true:=beq_iff_eq.2 (by omega)
      have hres:=HHIT.out (p.length-1-k) (by omega) (fun j hj hjk=>HK3.out j hj (by omega)) hit
      have HRES:=Lib.hid hres
      clear hres hit
      go_wp2_with fail
      go_ret2
      exact⟨by rw[HRES.out];rfl,HK4.out.trans (by repeat (first|with_reducible exact Q.refl _|with_reducible apply Qs.dr|with_reducible apply Qs.al|with_reducible refine Qs.st ?_ _ _ (Nat.le_refl _)))⟩
     ·have hb:(((p[p.length-1-k].1:Nat):Int)==(i:Nat))=false:=beq_eq_false_iff_ne.2 (by omega)
      have HN:=Lib.hid (show ∀j (hj:j<p.length),p.length-(k+1)≤j→p[j].1≠i from fun j hj hjk=>by
       by_cases he:j=p.length-1-k
       ·subst he;exact hit
       ·exact HK3.out j hj (by omega))
      clear hit
      go_wp2_with fail
      go_roundw
      case rel=>exact⟨k+1,by go_num,by omega,HN.out,HK4.out.trans (by repeat (first|with_reducible exact Q.refl _|with_reducible apply Qs.dr|with_reducible apply Qs.al|with_reducible refine Qs.st ?_ _ _ (Nat.le_refl _)))⟩
      case measure=>simp[intOf];omega
   ·have hki:¬(k:Int)<(p.length:Int):=by omega
    have hres:=HCUT.out 0 (fun j hj _=>HK3.out j hj (by omega))
    rw[List.take_zero] at hres
    have HRES:=Lib.hid hres
    have d2:=cell_stays hk4 hdisk
    have hni:(i:Int)<(n:Int):=by omega
    clear hres hk4
    go_wp2_with fail
    go_ret2
    exact⟨by rw[HRES.out];rfl,HK4.out⟩
 ·have e1:(d.chk i==0)=false:=beq_eq_false_iff_ne.2 h0
  have hrd:d.read i=([],d.chk i):=by unfold DevL.read;rw[if_neg h0]
  rw[hrd]
  generalize d.chk i=x at *
  have HC:=Lib.hid hc
  clear hc h hp hrd h0
  go_enter Tryz.func84,Tryz.ntmps84
  go_wp2_with fail
  refine HC.out.mono ?_
  rintro e w1 ⟨rfl,rfl⟩
  go_wp2_with fail
  go_ret2
  exact⟨rfl,Q.refl _⟩
theorem RTurn_any(w:World)(F:Nat→Prop)(b:Nat)(lv pv:Value)(d:DevL)(h:RDevG w F b lv pv d)(hf : -1≤d.fuse)(hf1:d.fuse≤9223372036854775807):
  Calls Tryz.prog 152 #[ptrV b] w fun e w'=>e=.returned (.bool (!decide (d.fuse=0)))∧RDevG w' F b lv pv d.turn∧Turn F w w'∧w'.heap.size=w.heap.size:=by
 obtain⟨c0,c1,c2,c3,f0,f1,f2,f3⟩:=h.box.c4
 by_cases h0:d.fuse=0
 ·have e1:(d.fuse==0)=true:=beq_iff_eq.2 h0
  have hd:d.turn={ d with dead:=true }:=by unfold DevL.turn;rw[if_pos h0]
  have hend:=h.dead true
  rw[decide_eq_true h0,hd]
  have hsz:=setCell_size w ⟨b,3,none⟩ (.bool true)
  have HE:=Lib.hid hend;have HS:=Lib.hid hsz
  clear h hend hd hsz
  go_enter Tryz.func152,Tryz.ntmps152
  go_wp2
  go_ret
  exact⟨rfl,HE.out.1,HE.out.2,HS.out⟩
 ·have e1:(d.fuse==0)=false:=beq_eq_false_iff_ne.2 h0
  by_cases h1:0<d.fuse
  ·have hd:d.turn={ d with fuse:=d.fuse-1 }:=by unfold DevL.turn;rw[if_neg h0,show max (d.fuse-1) (-1)=d.fuse-1 by omega]
   have hend:=h.fuse (d.fuse-1)
   rw[decide_eq_false h0,hd]
   have hsz:=setCell_size w ⟨b,2,none⟩ (.int .i64 (d.fuse-1))
   have HE:=Lib.hid hend;have HS:=Lib.hid hsz
   clear h hend hd hsz
   go_enter Tryz.func152,Tryz.ntmps152
   go_wp2
   go_ret
   exact⟨rfl,HE.out.1,HE.out.2,HS.out⟩
  ·have hd:d.turn=d:=by
    unfold DevL.turn
    rw[if_neg h0]
    have:max (d.fuse-1) (-1)=d.fuse:=by omega
    rw[this]
   rw[decide_eq_false h0,hd]
   have HE:=Lib.hid h
   clear h hd
   go_enter Tryz.func152,Tryz.ntmps152
   go_wp2
   go_ret
   exact⟨rfl,HE.out,Turn.refl _ _,rfl⟩
theorem RFuse_any(w:World)(F:Nat→Prop)(b:Nat)(d:DevL)(n:Int)(h:RDevAt w F b d):
  Calls Tryz.prog 43 #[ptrV b,.int .i64 n] w fun e w'=>e=.returned (.tuple #[])∧RDevAt w' F b (d.setFuse n)∧Turn F w w'∧w'.heap.size=w.heap.size:=by
 obtain⟨lv,pv,h⟩:=h
 obtain⟨c0,c1,c2,c3,f0,f1,f2,f3⟩:=h.box.c4
 rcases Int.lt_or_le n (-1) with hm|hm
 ·have hd:d.setFuse n={ d with fuse := -1 }:=by unfold DevL.setFuse;rw[show max n (-1) = -1 by omega]
  have hend:=h.fuse (-1)
  have hsz:=setCell_size w ⟨b,2,none⟩ (.int .i64 (-1))
  rw[hd]
  have HE:=Lib.hid hend;have HS:=Lib.hid hsz
  clear h hend hd hsz
  go_enter Tryz.func43,Tryz.ntmps43
  go_wp2
  go_end0
  exact⟨rfl,⟨_,_,HE.out.1⟩,HE.out.2,HS.out⟩
 ·have hd:d.setFuse n={ d with fuse:=n }:=by unfold DevL.setFuse;rw[show max n (-1)=n by omega]
  have hend:=h.fuse n
  have hsz:=setCell_size w ⟨b,2,none⟩ (.int .i64 n)
  rw[hd]
  have HE:=Lib.hid hend;have HS:=Lib.hid hsz
  clear h hend hd hsz
  go_enter Tryz.func43,Tryz.ntmps43
  go_wp2
  go_end0
  exact⟨rfl,⟨_,_,HE.out.1⟩,HE.out.2,HS.out⟩
theorem chk_live{d:DevL}(h:d.dead=false)(i:Int):d.chk i=if 0≤i∧i<d.l.length then 0 else 2:=by unfold DevL.chk;rw[h];rfl
theorem read_out{d:DevL}(h:d.dead=false)(i:Int)(hi:¬(0≤i∧i<d.l.length)):d.read i=([],2):=by
 unfold DevL.read
 rw[chk_live h,if_neg hi,if_neg (by decide)]
theorem read_in{d:DevL}(h:d.dead=false)(i:Nat)(hi:i<d.l.length):d.read i=(lastP d.p i (d.l.getD i []),0):=by
 unfold DevL.read
 have hc:d.chk (i:Int)=0:=by rw[chk_live h,if_pos ⟨by omega,by omega⟩]
 rw[if_pos hc];rfl
theorem RRead_any(w:World)(F:Nat→Prop)(b:Nat)(d:DevL)(i:Int)(h:RDevAt w F b d)(hm:d.l.length≤4096)(hp:d.dead=false→d.p.length≤1000000):
  Calls Tryz.prog 118 #[ptrV b,.int .i64 i] w fun e w'=>e=.returned (.tuple #[strV (d.read i).1,.int .i64 (d.read i).2])∧Q w w':=by
 obtain⟨lv,pv,hg⟩:=h
 obtain⟨c0,c1,c2,c3,_⟩:=hg.box.c4
 obtain⟨la,lc,rfl,hlc⟩:=hg.lcells
 obtain⟨pa,pc,rfl,hpc⟩:=hg.pcells
 cases hlive:d.dead with
 | true =>
  have hrd:d.read i=([],4):=by unfold DevL.read DevL.chk;rw[if_pos hlive,if_neg (by decide)]
  rw[hrd]
  rw[hlive] at c3
  clear hg hlc hpc hp hrd
  go_enter Tryz.func118,Tryz.ntmps118
  go_wp2_with fail
  go_ret2
  exact⟨rfl,Q.refl _⟩
 | false =>
  rw[hlive] at c3
  by_cases h0:i<0
  ·have hrd:d.read i=([],2):=read_out hlive _ (by omega)
   rw[hrd]
   have e1:decide (i<0)=true:=decide_eq_true h0
   clear hg hlc hpc hp hrd
   go_enter Tryz.func118,Tryz.ntmps118
   go_wp2_with fail
   go_ret2
   exact⟨rfl,Q.refl _⟩
  ·obtain⟨i,rfl⟩:∃n:Nat,i=n:=⟨i.toNat,by omega⟩
   by_cases h1:i<d.l.length
   ·have hrd:d.read i=(lastP d.p i (d.l.getD i []),0):=read_in hlive i h1
    rw[hrd]
    have hpl:=hp hlive
    obtain⟨g2,rfl,x0,_⟩:=hlc i h1
    have hge:d.l[i]=d.l.getD i []:=by rw[List.getD_eq_getElem?_getD,List.getElem?_eq_getElem h1];rfl
    rw[hge] at x0
    have e1:(i:Int)<(d.l.length:Int):=by omega
    clear hlc hg hge
    generalize d.l.getD i []=s0 at *
    have hcut:=lastP_cut d.p i s0
    have hsn:∀k (hk:k<d.p.length),lastP (d.p.take (k+1)) i s0=if d.p[k].1=i then d.p[k].2 else lastP (d.p.take k) i s0:=fun k hk=>by rw[List.take_succ_eq_append_getElem hk,lastP_snoc]
    generalize hpp:d.p=p at *
    generalize d.l.length=n at *
    have HPC:=Lib.hid hpc;have HSN:=Lib.hid hsn
    clear hpc hcut hsn hp hrd
    go_enter Tryz.func118,Tryz.ntmps118
    go_wp2_with fail
    go_loop [6,7] (fun sv v=>∃k:Nat,v=.int .i64 (k:Nat)∧k≤p.length∧sv=strV (lastP (p.take k) i s0)) (fun _ v=>p.length-(intOf v).toNat)
    case atStart=>exact⟨0,rfl,Nat.zero_le _,rfl⟩
    case round =>
     obtain⟨k,rfl,hk,rfl⟩:=hrel
     by_cases hlt:k<p.length
     ·have hki:(k:Int)<(p.length:Int):=by omega
      obtain⟨g3,rfl,y1,y2⟩:=HPC.out k hlt
      have hsn:=HSN.out k hlt
      by_cases hit:p[k].1=i
      ·have hb:(((p[k].1:Nat):Int)==(i:Nat))=true:=beq_iff_eq.2 (by omega)
       rw[if_pos hit] at hsn
       have HS:=Lib.hid hsn
       clear hsn
       go_wp2_with fail
       exact⟨⟨k+1,by go_num,by omega,by rw[HS.out]⟩,by simp[intOf];omega⟩
      ·have hb:(((p[k].1:Nat):Int)==(i:Nat))=false:=beq_eq_false_iff_ne.2 (by omega)
       rw[if_neg hit] at hsn
       have HS:=Lib.hid hsn
       clear hsn
       go_wp2_with fail
       exact⟨⟨k+1,by go_num,by omega,by rw[HS.out]⟩,by simp[intOf];omega⟩
     ·have hki:¬(k:Int)<(p.length:Int):=by omega
      obtain rfl:k=p.length:=by omega
      rw[List.take_length] at *
      go_wp2_with fail
      go_ret2
      exact⟨rfl,Q.refl _⟩
   ·have hrd:d.read i=([],2):=read_out hlive _ (by omega)
    rw[hrd]
    have e1:decide ((d.l.length:Int)≤(i:Int))=true:=decide_eq_true (by omega)
    clear hg hlc hpc hp hrd
    generalize d.l.length=n at *
    go_enter Tryz.func118,Tryz.ntmps118
    go_wp2_with fail
    go_ret2
    exact⟨rfl,Q.refl _⟩
theorem write_err{d:DevL}(i:Int)(s:Bytes)(h:d.chk i≠0):d.write i s=(d,d.chk i):=by unfold DevL.write;rw[if_pos h]
theorem Write_any(w:World)(F:Nat→Prop)(b:Nat)(d:DevL)(i:Int)(s:Bytes)(h:DevAt w F b d)(hd:d.Ok)(hp:d.dead=false→d.p.length≤1000000)(hs:s.length≤9223372036854775807):
  Calls Tryz.prog 149 #[ptrV b,.int .i64 i,strV s] w fun e w'=>e=.returned (.int .i64 (d.write i s).2)∧DevAt w' (grow F w w') b (d.write i s).1∧Turn F w w':=by
 have hc:=Chk_any w F b d i h hd.max
 obtain⟨g,cap,pv,h⟩:=h
 have hg0:=h.mono (fun k hk=>grow_left (A:=w) (B:=w) hk)
 have hfin:∀{e:Int},(d.write i s)=(d,e)→DevAt w (grow F w w) b (d.write i s).1:=fun he=>by rw[he];exact⟨g,cap,pv,hg0⟩
 by_cases h0:d.chk i=0
 ·rw[h0] at hc
  by_cases h1:s.length=256
  ·have e1:(!((s.length:Int)==256))=false:=by rw[beq_iff_eq.2 (by omega)];rfl
   have ht:=BTurn_any w F b g cap pv d h hd.fuse hd.fuse2
   by_cases h2:d.fuse=0
   ·have hw:d.write i s=(d.turn,4):=by unfold DevL.write;rw[if_neg (by rw[h0];simp),if_neg (by rw[h1];simp),if_pos h2]
    rw[if_pos h2] at ht
    rw[hw]
    have HC:=Lib.hid hc;have HT:=Lib.hid ht
    clear hc ht h hg0 hfin hw h0 hd hp
    go_enter Tryz.func149,Tryz.ntmps149
    go_wp2_with fail
    refine HC.out.mono ?_
    rintro e w1 ⟨rfl,rfl⟩
    go_wp2_with fail
    refine HT.out.mono ?_
    rintro e w1 ⟨rfl,hg1,t1,hz1⟩
    have HG:=Lib.hid hg1;have HTT:=Lib.hid t1
    clear hg1 t1
    go_wp2_with fail
    go_ret
    exact⟨rfl,⟨_,_,_,HG.out.mono (fun k hk=>grow_left hk)⟩,HTT.out⟩
   ·rw[if_neg h2] at ht
    have hlive:d.dead=false:=by
     unfold DevL.chk at h0
     cases hx:d.dead with
     | false=>rfl
     | true=>rw[hx] at h0;simp at h0
    have hi0:0≤i:=by
     unfold DevL.chk at h0
     rw[hlive] at h0
     simp only[Bool.false_eq_true,if_false] at h0
     split at h0
     ·rename_i hx;exact hx.1
     ·exact absurd h0 (by decide)
    have hw:d.write i s=({ d.turn with p:=d.turn.p++[(i.toNat,s)] },0):=by unfold DevL.write;rw[if_neg (by rw[h0];simp),if_neg (by rw[h1];simp),if_neg h2,(DevL.turn_l d).2]
    have hpl:d.turn.p.length≤1000000:=by rw[(DevL.turn_l d).2];exact hp hlive
    have hx:[Value.int .i64 i,strV s]=encW (i.toNat,s):=by unfold encW;rw[Int.toNat_of_nonneg hi0]
    rw[hw]
    obtain⟨i0,hi,hz0,hz1,hz2⟩:=info_parts tinfoWr
    generalize d.turn=d2 at *
    have HC:=Lib.hid hc;have HT:=Lib.hid ht;have HX:=Lib.hid hx
    clear hc ht h hg0 hfin hw h0 hd hp hx hi0
    go_enter Tryz.func149,Tryz.ntmps149
    go_wp2_with fail
    refine HC.out.mono ?_
    rintro e w1 ⟨rfl,rfl⟩
    go_wp2_with fail
    refine HT.out.mono ?_
    rintro e w1 ⟨rfl,hg1,t1,hz1'⟩
    obtain⟨c0,c1,c2,c3,f0,f1,f2,f3⟩:=hg1.box.c4
    have HG:=Lib.hid hg1;have HTT:=Lib.hid t1;have HZ:=Lib.hid hz1'
    clear hg1 t1 hz1'
    have hrow:=HG.out.row
    have hc1:∀u∈#[Value.int .i64 i,strV s].toList,u.oneCell'=true:=by intro u hu;simp at hu;rcases hu with rfl|rfl<;>rfl
    have hc2:(d2.p.length+1)*24≤140737488355328:=by omega
    have HC1:=Lib.hid hc1;have HC2:=Lib.hid hc2
    clear hc1 hc2
    go_wp2_with (at_builtin;refine wpList_app w1 (by rfl) _ _ 49 (by rfl) 0 102 _ i0 (.agg #[.int .i64 0,strV []]) 2 24 Tryz.underlying49 hi hz0 hz1 hz2 rfl (by decide) (by decide) pv _ _ (by rfl) hrow #[.int .i64 i,strV s] (by rfl) rfl HC1.out HC2.out (Nat.zero_le _) ?_)
    clear hrow
    intro g2 cap2 w2 hr hg ho hlt hlt2
    have hr':w2.ownsRow 0 102 2 (.slice (some ⟨g2,0,none⟩) (d2.p.length+1) cap2) (d2.p.length+1) (wrVs d2.p++encW (i.toNat,s)):=by rw[←HX.out];exact hr
    obtain⟨hb2,hend,tend⟩:=HG.out.append (i.toNat,s) g2 cap2 hr' hg ho hlt
    obtain⟨d0,d1,d2',d3,e0,e1',e2,e3⟩:=hb2.c4
    have HE:=Lib.hid hend;have HF:=Lib.hid tend
    clear hend tend hr hg ho hr' hb2
    go_wp2_with fail
    go_ret
    refine⟨rfl,⟨_,_,_,HE.out.mono (fun k hk=>?_)⟩,HTT.out.trans HF.out⟩
    rcases hk with hk|hk
    ·exact .inl hk
    ·exact .inr ⟨by rw[←HZ.out];exact hk.1,hk.2⟩
  ·have e1:(!((s.length:Int)==256))=true:=by rw[beq_eq_false_iff_ne.2 (by omega)];rfl
   have hw:d.write i s=(d,3):=by unfold DevL.write;rw[if_neg (by rw[h0];simp),if_pos h1]
   have hend:=hfin hw
   rw[hw] at hend ⊢
   have HC:=Lib.hid hc;have HE:=Lib.hid hend
   clear hc hend h hg0 hfin hw h0 hd hp
   go_enter Tryz.func149,Tryz.ntmps149
   go_wp2_with fail
   refine HC.out.mono ?_
   rintro e w1 ⟨rfl,rfl⟩
   go_wp2_with fail
   go_ret
   exact⟨rfl,HE.out,Turn.refl _ _⟩
 ·have e1:(d.chk i==0)=false:=beq_eq_false_iff_ne.2 h0
  have hw:=write_err i s h0
  have hend:=hfin hw
  rw[hw] at hend ⊢
  have HC:=Lib.hid hc;have HE:=Lib.hid hend
  clear hc hend h hg0 hfin hw h0 hd hp
  simp only at HE ⊢
  generalize d.chk i=x at *
  go_enter Tryz.func149,Tryz.ntmps149
  go_wp2_with fail
  refine HC.out.mono ?_
  rintro e w1 ⟨rfl,rfl⟩
  go_wp2_with fail
  go_ret
  exact⟨rfl,HE.out,Turn.refl _ _⟩
end
section
open Go.RowKit
section
variable {P:Program} (w:World)
theorem run_append_no(base:Nat)(t ty e:TypeId)(i:TypeInfo)(size:Nat)(ht:P.underlying t=some (.slice e))(hi:P.info? e=some i)
  (v:Value) (n:Nat) (xs:List Value) (hown:w.ownsRow base e size v n xs) (c:Nat):(Builtin.append_ #[t,t] ty #[v,.slice none 0 c]).run P w=.ok v w:=by
 rcases hown.2 with ⟨rfl,rfl⟩|⟨g,cap,cur,rfl,_,_,hnc,_⟩
 ·simp[Builtin.append_,run_underlying ht,sizeOf,typeInfo,hi,Builtin.lenOf,Builtin.firstCells]
 ·simp[Builtin.append_,run_underlying ht,sizeOf,typeInfo,hi,Builtin.lenOf,Builtin.firstCells,hnc,storeCells]
theorem run_append_sl(base:Nat)(t ty e:TypeId)(i:TypeInfo)(z:Value)(size bytes:Nat)(ht:P.underlying t=some (.slice e))(hi:P.info? e=some i)(hz:i.zero=some z)
  (hsize:i.size=size) (hby:i.bytes=bytes) (hzs:z.cells.size=size) (hsz:0<size)
  (v:Value) (n:Nat) (xs:List Value) (hown:w.ownsRow base e size v n xs)
  (vx:Value) (m:Nat) (news:List Value) (hr:Sl w vx m size news) (h1:∀u∈news,u.oneCell'=true)
  (h63:n+m≤maxLen) (hbytes:(n+m)*bytes≤140737488355328) (hbase:base≤w.heap.size) :
  ∃v' w',(Builtin.append_ #[t,t] ty #[v,vx]).run P w=.ok v' w'∧w'.ownsRow base e size v' (n+m) (xs++news)∧w.grownBy w' v.ownBlock∧(v'.ownBlock=v.ownBlock∨v'.ownBlock=some w.heap.size):=by
 obtain⟨hl,A,c,rfl,hc⟩:=hr
 rcases A with _|ad
 ·have hm:m=0:=by
   rcases Nat.eq_zero_or_pos m with h0|h0
   ·exact h0
   ·obtain⟨b,off,h,_⟩:=hc h0;cases h
  subst hm
  have hn:news=[]:=List.eq_nil_of_length_eq_zero (by simpa using hl)
  subst hn
  exact⟨v,w,run_append_no w base t ty e i size ht hi v n xs hown c,by simpa using hown,World.grownBy.refl w _,.inl rfl⟩
 ·have hcells:∀j u,news[j]?=some u→w.cell? (ad.add j)=some u:=by
   intro j u hu
   rcases Nat.eq_zero_or_pos m with h0|h0
   ·subst h0
    have hn:news=[]:=List.eq_nil_of_length_eq_zero (by simpa using hl)
    subst hn
    simp at hu
   ·obtain⟨b,off,h,h2⟩:=hc h0
    cases h
    rw[add_off]
    exact h2 j u hu
  obtain⟨v',w',hrun,h2,h3,_,h5⟩:=run_append_own_at (P:=P) w base t ty e i z size bytes ht hi hz hsize hby hzs hsz v n xs hown ad m c news hl hcells h1 h63 hbytes hbase
  exact⟨v',w',hrun,h2,h3,h5⟩
theorem wp_append_sl{o:Oper}{a:Act}{K:Act→World→Prop}{Q:Exit→Act→World→Prop}(s x:Operand)(t:TypeId)
  (ho:o.op=.call { callee:=.builtin .append,args:=#[s,x],argTypes:=#[t,t] })
  (base:Nat) (e:TypeId) (i:TypeInfo) (z:Value) (size bytes:Nat) (ht:P.underlying t=some (.slice e)) (hi:P.info? e=some i) (hz:i.zero=some z)
  (hsize:i.size=size) (hby:i.bytes=bytes) (hzs:z.cells.size=size) (hsz:0<size)
  (v:Value) (n:Nat) (xs:List Value) (hs:a.eval s=v) (hown:w.ownsRow base e size v n xs)
  (vx:Value) (m:Nat) (news:List Value) (hx:a.eval x=vx) (hr:Sl w vx m size news) (h1:∀u∈news,u.oneCell'=true)
  (h63:n+m≤maxLen) (hbytes:(n+m)*bytes≤140737488355328) (hbase:base≤w.heap.size)
  (h:∀v' w',w'.ownsRow base e size v' (n+m) (xs++news)→w.grownBy w' v.ownBlock→(v'.ownBlock=v.ownBlock∨v'.ownBlock=some w.heap.size)→K (a.put o.dst v') w'):o.wp P a w K Q:=by
 obtain⟨v',w',hrun,h2,h3,h4⟩:=run_append_sl (P:=P) w base t o.type e i z size bytes ht hi hz hsize hby hzs hsz v n xs hown vx m news hr h1 h63 hbytes hbase
 unfold Oper.wp execOp
 simp only[ho,resolve,invoke,builtin,Sem.run_bind,Sem.run_pure,Result.andThen_ok,List.map_toArray,List.map_cons,List.map_nil,hs,hx,hrun]
 exact h v' w' h2 h3 h4
theorem wpList_append_sl{ops:Array Oper}{rest:List Oper}{o:Oper}{a:Act}{Q:Exit→Act→World→Prop}(hgd:o.guard=none)(s x:Operand)(t:TypeId)
  (ho:o.op=.call { callee:=.builtin .append,args:=#[s,x],argTypes:=#[t,t] })
  (base:Nat) (e:TypeId) (i:TypeInfo) (z:Value) (size bytes:Nat) (ht:P.underlying t=some (.slice e)) (hi:P.info? e=some i) (hz:i.zero=some z)
  (hsize:i.size=size) (hby:i.bytes=bytes) (hzs:z.cells.size=size) (hsz:0<size)
  (v:Value) (n:Nat) (xs:List Value) (hs:a.eval s=v) (hown:w.ownsRow base e size v n xs)
  (vx:Value) (m:Nat) (news:List Value) (hx:a.eval x=vx) (hr:Sl w vx m size news) (h1:∀u∈news,u.oneCell'=true)
  (h63:n+m≤maxLen) (hbytes:(n+m)*bytes≤140737488355328) (hbase:base≤w.heap.size)
  (h:∀v' w',w'.ownsRow base e size v' (n+m) (xs++news)→w.grownBy w' v.ownBlock→(v'.ownBlock=v.ownBlock∨v'.ownBlock=some w.heap.size)→wpList P ops Q rest (a.put o.dst v') w'):wpList P ops Q (o::rest) a w :=
 wpList_plain hgd fun _ hK=>wp_append_sl w s x t ho base e i z size bytes ht hi hz hsize hby hzs hsz v n xs hs hown vx m news hx hr h1 h63 hbytes hbase fun v' w' h2 h3 h4=>hK _ _ (h v' w' h2 h3 h4)
end
theorem Sl.cut{w:World}{a:Option Addr}{n cap size:Nat}{xs:List Value}(h:Sl w (.slice a n cap) n size xs)(lo hi:Nat)(h1:lo≤hi)(h2:hi≤n)(h3:n≤cap):
  Sl w (.slice (if cap=lo then a else a.map (·.add (lo*size))) (hi-lo) (cap-lo)) (hi-lo) size ((xs.take (hi*size)).drop (lo*size)):=by
 obtain⟨hl,a',c',hv,hc⟩:=h
 cases hv
 refine⟨?_,_,_,rfl,fun hp=>?_⟩
 ·rw[List.length_drop,List.length_take,hl,Nat.min_eq_left (Nat.mul_le_mul_right _ h2),Nat.sub_mul]
 ·obtain⟨b,off,rfl,hcc⟩:=hc (by omega)
  rw[if_neg (by omega)]
  refine⟨b,off+lo*size,by simp[add_off],fun j u hj=>?_⟩
  rw[Nat.add_assoc]
  rw[List.getElem?_drop,List.getElem?_take] at hj
  split at hj
  ·exact hcc _ u hj
  ·cases hj
end
end Go.Proofs.YthcpkgfieoneeaaGreatDoor
