/- Joined texts of one proof: what is needed of Jrn, Jrn2, Jrn3. -/
import Derived.Test.YthcpkgfieoneeaaGreatDoorJPKit
set_option linter.unusedSimpArgs false
set_option linter.unusedVariables false
set_option linter.unnecessarySimpa false
set_option maxRecDepth 100000
set_option maxHeartbeats 16000000
namespace Go.Proofs.YthcpkgfieoneeaaGreatDoor
section
def unfix(s:Bytes):Nat:=byteN s 0+256*byteN s 1+65536*byteN s 2+16777216*byteN s 3
theorem unfix_lt(s:Bytes):unfix s<4294967296:=by
 have:=byteN_lt s 0;have:=byteN_lt s 1;have:=byteN_lt s 2;have:=byteN_lt s 3
 unfold unfix;omega
theorem unfix_fixed(v:Nat)(r:Bytes):unfix (fixedL v++r)=v%4294967296:=by
 have h:∀n,n<256→(UInt8.ofNat n).toNat=n:=toNat_ofNat
 unfold unfix
 simp only[byteN,fixedL,List.cons_append,List.nil_append,List.getD_cons_zero,List.getD_cons_succ]
 rw[h _ (by omega),h _ (by omega),h _ (by omega),h _ (by omega)]
 omega
theorem fixedL_mod(v:Nat):fixedL (v%4294967296)=fixedL v:=by
 unfold fixedL
 rw[show v%4294967296%256=v%256 by omega,show v%4294967296 / 256%256=v / 256%256 by omega,show v%4294967296 / 65536%256=v / 65536%256 by omega,show v%4294967296 / 16777216%256=v / 16777216%256 by omega]
def zerosL(n:Nat):Bytes:=List.replicate n 0
theorem zerosL_length(n:Nat):(zerosL n).length=n:=List.length_replicate
def fixedsL(l:List Nat):Bytes:=l.flatMap fixedL
theorem fixedsL_length(l:List Nat):(fixedsL l).length=4*l.length:=by
 induction l with
 | nil=>rfl
 | cons x l ih=>simp only[fixedsL,List.flatMap_cons,List.length_append,List.length_cons] at ih ⊢;rw[ih,length_fixedL];omega
def magicT:Bytes:=[67,68,88,84]
def endT:Bytes:=[67,68,88,69]
def bodyL(seq:Nat)(ws:List WrL):Bytes :=
 magicT++(fixedL seq++(fixedL (seq / 4294967296)++(fixedL ws.length++(fixedsL (ws.map (·.1))++zerosL (232-4*ws.length)))))
def dataL(ws:List WrL):Bytes:=(ws.map (·.2)).flatten
def headL(seq:Nat)(ws:List WrL):Bytes:=bodyL seq ws++(fixedL (crcL (bodyL seq ws++dataL ws))++endT)
def packL(seq:Nat)(ws:List WrL):List Bytes:=headL seq ws::ws.map (·.2)
def WrOk(ws:List WrL):Prop:=1≤ws.length∧ws.length≤48∧∀w∈ws,w.1<4096∧w.2.length=256
theorem bodyL_length(seq:Nat)(ws:List WrL)(h:ws.length≤48):(bodyL seq ws).length=248:=by
 simp only[bodyL,List.length_append,length_fixedL,fixedsL_length,zerosL_length,List.length_map]
 have:magicT.length=4:=rfl
 omega
theorem headL_length(seq:Nat)(ws:List WrL)(h:ws.length≤48):(headL seq ws).length=256:=by
 simp only[headL,List.length_append,length_fixedL,bodyL_length seq ws h]
 rfl
def numsL:Nat→Bytes→Option (List Nat×Bytes)
 | 0,s=>some ([],s)
 | n+1,s=>if unfix s<4096 then(numsL n (s.drop 4)).map fun r=>(unfix s::r.1,r.2) else none
def toHeadL(b:Bytes):Option (Nat×List Nat) :=
 if b.length=256∧b.take 4=magicT∧b.drop 252=endT then
  let n:=unfix (b.drop 12)
  if 1≤n∧n≤48 then
   match numsL n ((b.drop 16).take 232) with
   | some (l,r)=>if r.all (·==0) then some (unfix (b.drop 8)*4294967296+unfix (b.drop 4),l) else none
   | none=>none
  else none
 else none
def unpackL(l:List Bytes):Option (Nat×List WrL) :=
 match l with
 | []=>none
 | b::rest =>
  match toHeadL b with
  | none=>none
  | some (seq,at_) =>
   if rest.length<at_.length∨∃s∈rest.take at_.length,s.length≠256 then none
   else if fixedL (crcL (b.take 248++(rest.take at_.length).flatten))=(b.drop 248).take 4 then some (seq,at_.zip rest) else none
theorem numsL_fixeds(l:List Nat)(r:Bytes)(h:∀x∈l,x<4096):numsL l.length (fixedsL l++r)=some (l,r):=by
 induction l with
 | nil=>rfl
 | cons x l ih =>
  have hx:=h x (List.mem_cons_self ..)
  have e:fixedsL (x::l)++r=fixedL x++(fixedsL l++r):=by simp[fixedsL,List.append_assoc]
  have hd:(fixedL x++(fixedsL l++r)).drop 4=fixedsL l++r:=List.drop_left' (length_fixedL x)
  rw[List.length_cons,numsL,e,unfix_fixed,if_pos (by omega),hd,ih (fun y hy=>h y (List.mem_cons_of_mem _ hy))]
  simp only[Option.map_some]
  rw[Nat.mod_eq_of_lt (by omega)]
theorem drop_app(a b:Bytes)(n:Nat)(h:a.length=n):(a++b).drop n=b:=List.drop_left' h
theorem take_app(a b:Bytes)(n:Nat)(h:a.length=n):(a++b).take n=a:=List.take_left' h
theorem drop_more(a b:Bytes)(n k:Nat)(h:a.length=n):(a++b).drop (n+k)=b.drop k:=by rw[←List.drop_drop,drop_app a b n h]
theorem toHead_head(seq:Nat)(hs:seq<18446744073709551616)(ws:List WrL)(h:WrOk ws):toHeadL (headL seq ws)=some (seq,ws.map (·.1)):=by
 obtain⟨h1,h2,h3⟩:=h
 have hb:=bodyL_length seq ws h2
 have hl:=headL_length seq ws h2
 have m4:magicT.length=4:=rfl
 have e4:(headL seq ws).drop 4=fixedL seq++(fixedL (seq / 4294967296)++(fixedL ws.length++(fixedsL (ws.map (·.1))++zerosL (232-4*ws.length))))++(fixedL (crcL (bodyL seq ws++dataL ws))++endT):=by
  rw[headL,bodyL,List.append_assoc magicT,drop_app _ _ _ m4]
 have e8:(headL seq ws).drop 8=fixedL (seq / 4294967296)++(fixedL ws.length++(fixedsL (ws.map (·.1))++zerosL (232-4*ws.length)))++(fixedL (crcL (bodyL seq ws++dataL ws))++endT):=by
  rw[show(8:Nat)=4+4 from rfl,←List.drop_drop,e4,List.append_assoc (fixedL seq),drop_app _ _ _ (length_fixedL _)]
 have e12:(headL seq ws).drop 12=fixedL ws.length++(fixedsL (ws.map (·.1))++zerosL (232-4*ws.length))++(fixedL (crcL (bodyL seq ws++dataL ws))++endT):=by
  rw[show(12:Nat)=8+4 from rfl,←List.drop_drop,e8,List.append_assoc (fixedL (seq / _)),drop_app _ _ _ (length_fixedL _)]
 have e16:(headL seq ws).drop 16=(fixedsL (ws.map (·.1))++zerosL (232-4*ws.length))++(fixedL (crcL (bodyL seq ws++dataL ws))++endT):=by
  rw[show(16:Nat)=12+4 from rfl,←List.drop_drop,e12,List.append_assoc (fixedL ws.length),drop_app _ _ _ (length_fixedL _)]
 have hz:(fixedsL (ws.map (·.1))++zerosL (232-4*ws.length)).length=232:=by
  simp only[List.length_append,fixedsL_length,zerosL_length,List.length_map];omega
 have et:(headL seq ws).take 4=magicT:=by rw[headL,bodyL,List.append_assoc magicT,take_app _ _ _ m4]
 have ee:(headL seq ws).drop 252=endT:=by
  rw[headL,show(252:Nat)=248+4 from rfl,drop_more _ _ _ _ hb,drop_app _ _ _ (length_fixedL _)]
 unfold toHeadL
 rw[if_pos ⟨hl,et,ee⟩]
 simp only[]
 rw[e12,List.append_assoc (fixedL ws.length),unfix_fixed,Nat.mod_eq_of_lt (by omega),if_pos ⟨h1,h2⟩,e16,take_app _ _ _ hz]
 have hn:=numsL_fixeds (ws.map (·.1)) (zerosL (232-4*ws.length)) (fun x hx=>by
  obtain⟨w,hw,rfl⟩:=List.mem_map.1 hx
  exact(h3 w hw).1)
 rw[List.length_map] at hn
 rw[hn]
 simp only[]
 rw[if_pos (by simp[zerosL]),e8,List.append_assoc (fixedL (seq / _)),unfix_fixed,e4,List.append_assoc (fixedL seq),unfix_fixed]
 congr 2
 omega
theorem zip_maps(ws:List WrL)(r:List Bytes):(ws.map (·.1)).zip (ws.map (·.2)++r)=ws:=by
 induction ws with
 | nil=>rfl
 | cons w ws ih=>simp[ih]
theorem unpack_pack(seq:Nat)(hs:seq<18446744073709551616)(ws:List WrL)(h:WrOk ws)(r:List Bytes):unpackL (packL seq ws++r)=some (seq,ws):=by
 obtain⟨h1,h2,h3⟩:=h
 have ht:(ws.map (·.2)++r).take (ws.map (·.1)).length=ws.map (·.2):=by rw[List.length_map];exact List.take_left' (by simp)
 unfold unpackL packL
 simp only[List.cons_append]
 rw[toHead_head seq hs ws ⟨h1,h2,h3⟩]
 simp only[]
 rw[if_neg,if_pos,zip_maps]
 ·rw[ht,headL,take_app _ _ _ (bodyL_length seq ws h2),drop_app _ _ _ (bodyL_length seq ws h2),take_app _ _ _ (length_fixedL _),dataL]
 ·rintro(hc|⟨s,hs,hne⟩)
  ·simp at hc
   omega
  ·rw[ht] at hs
   obtain⟨w,hw,rfl⟩:=List.mem_map.1 hs
   exact hne (h3 w hw).2
theorem unpack_none(b:Bytes)(r:List Bytes)(h:b.drop 252≠endT):unpackL (b::r)=none:=by
 have e:toHeadL b=none:=by
  unfold toHeadL
  rw[if_neg (fun h'=>h h'.2.2)]
 unfold unpackL
 simp only[e]
structure SlotL where
 e:Nat
 s:Nat
 log:Nat
 place:Nat
deriving DecidableEq
def magicS:Bytes:=[67,68,88,83]
def slotH(s:SlotL):Bytes:=magicS++(fixedL s.e++(fixedL (s.e / 4294967296)++(fixedL s.s++(fixedL (s.s / 4294967296)++(fixedL s.log++(fixedL s.place++zerosL 100))))))
def slotT(s:SlotL):Bytes:=slotH s++slotH s
theorem slotH_length(s:SlotL):(slotH s).length=128:=by
 simp only[slotH,List.length_append,length_fixedL,zerosL_length];rfl
theorem slotT_length(s:SlotL):(slotT s).length=256:=by simp only[slotT,List.length_append,slotH_length]
def slotOf(t:Bytes):SlotL :=
 ⟨unfix (t.drop 8)*4294967296+unfix (t.drop 4),unfix (t.drop 16)*4294967296+unfix (t.drop 12),unfix (t.drop 20),unfix (t.drop 24)⟩
def toSlotL(t:Bytes)(n:Nat):Option SlotL :=
 if 50≤(slotOf t).log∧(slotOf t).log+3≤n∧(slotOf t).place<(slotOf t).log∧slotT (slotOf t)=t then some (slotOf t) else none
structure SlotL.Ok (s:SlotL):Prop where
 he:s.e<18446744073709551616
 hs:s.s<18446744073709551616
 hlog:s.log<4294967296
 hplace:s.place<4294967296
theorem slotOf_h(s:SlotL)(h:s.Ok)(r:Bytes):slotOf (slotH s++r)=s:=by
 have m4:magicS.length=4:=rfl
 have e4:(slotH s++r).drop 4=fixedL s.e++((fixedL (s.e / 4294967296)++(fixedL s.s++(fixedL (s.s / 4294967296)++(fixedL s.log++(fixedL s.place++zerosL 100)))))++r):=by
  rw[slotH,List.append_assoc magicS,drop_app _ _ _ m4,List.append_assoc]
 have e8:(slotH s++r).drop 8=fixedL (s.e / 4294967296)++((fixedL s.s++(fixedL (s.s / 4294967296)++(fixedL s.log++(fixedL s.place++zerosL 100))))++r):=by
  rw[show(8:Nat)=4+4 from rfl,←List.drop_drop,e4,drop_app _ _ _ (length_fixedL _),List.append_assoc]
 have e12:(slotH s++r).drop 12=fixedL s.s++((fixedL (s.s / 4294967296)++(fixedL s.log++(fixedL s.place++zerosL 100)))++r):=by
  rw[show(12:Nat)=8+4 from rfl,←List.drop_drop,e8,drop_app _ _ _ (length_fixedL _),List.append_assoc]
 have e16:(slotH s++r).drop 16=fixedL (s.s / 4294967296)++((fixedL s.log++(fixedL s.place++zerosL 100))++r):=by
  rw[show(16:Nat)=12+4 from rfl,←List.drop_drop,e12,drop_app _ _ _ (length_fixedL _),List.append_assoc]
 have e20:(slotH s++r).drop 20=fixedL s.log++((fixedL s.place++zerosL 100)++r):=by
  rw[show(20:Nat)=16+4 from rfl,←List.drop_drop,e16,drop_app _ _ _ (length_fixedL _),List.append_assoc]
 have e24:(slotH s++r).drop 24=fixedL s.place++(zerosL 100++r):=by
  rw[show(24:Nat)=20+4 from rfl,←List.drop_drop,e20,drop_app _ _ _ (length_fixedL _),List.append_assoc]
 obtain⟨h1,h2,h3,h4⟩:=h
 unfold slotOf
 rw[e4,e8,e12,e16,e20,e24,unfix_fixed,unfix_fixed,unfix_fixed,unfix_fixed,unfix_fixed,unfix_fixed]
 cases s
 simp only at *
 congr 1<;>omega
theorem toSlot_text(s:SlotL)(h:s.Ok)(n:Nat)(h1:50≤s.log)(h2:s.log+3≤n)(h3:s.place<s.log):toSlotL (slotT s) n=some s:=by
 have e:slotOf (slotT s)=s:=slotOf_h s h _
 unfold toSlotL
 rw[e,if_pos ⟨h1,h2,h3,rfl⟩]
theorem toSlot_some{t:Bytes}{n:Nat}{s:SlotL}(h:toSlotL t n=some s):slotT s=t∧50≤s.log∧s.log+3≤n∧s.place<s.log:=by
 unfold toSlotL at h
 split at h
 ·rename_i hc
  injection h with h
  subst h
  exact⟨hc.2.2.2,hc.1,hc.2.1,hc.2.2.1⟩
 ·exact absurd h (by simp)
theorem slotOf_ok(t:Bytes):(slotOf t).Ok:=by
 have h1:=unfix_lt (t.drop 4);have h2:=unfix_lt (t.drop 8);have h3:=unfix_lt (t.drop 12);have h4:=unfix_lt (t.drop 16)
 refine⟨?_,?_,unfix_lt _,unfix_lt _⟩<;>simp only[slotOf]<;>omega
theorem toSlot_ok{t:Bytes}{n:Nat}{s:SlotL}(h:toSlotL t n=some s):s.Ok:=by
 unfold toSlotL at h
 split at h
 ·injection h with h
  subst h
  exact slotOf_ok t
 ·exact absurd h (by simp)
theorem toSlot_torn(s:SlotL)(h:s.Ok)(t:Bytes)(ht:t.length=256)(c:Nat)(n:Nat)(r:SlotL)(hr:toSlotL ((slotT s).take c++t.drop c) n=some r):
  (r=s∧(slotT s).take c++t.drop c=slotT s)∨(slotH r=t.drop 128):=by
 obtain⟨he,_⟩:=toSlot_some hr
 have hro:=toSlot_ok hr
 by_cases hc:128≤c
 ·left
  have hh:slotH r=slotH s:=by
   have h1:=congrArg (List.take 128) he
   rw[slotT,take_app _ _ _ (slotH_length r)] at h1
   rw[h1,List.take_append_of_le_length (by rw[List.length_take,slotT_length];omega),List.take_take,Nat.min_eq_left hc,slotT,take_app _ _ _ (slotH_length s)]
  have e:r=s:=by
   have h1:=slotOf_h r hro []
   rw[hh,slotOf_h s h []] at h1
   exact h1.symm
  subst e
  exact⟨rfl,he.symm⟩
 ·right
  have h1:=congrArg (List.drop 128) he
  rw[slotT,drop_app _ _ _ (slotH_length r)] at h1
  rw[h1,List.drop_append,List.length_take,slotT_length,List.drop_drop]
  rw[List.drop_of_length_le (by rw[List.length_take,slotT_length];omega),List.nil_append]
  congr 1;omega
abbrev at'(l:List Bytes)(i:Nat):Bytes:=l.getD i []
def tornW(l:List Bytes)(w:WrL)(c:Nat):List Bytes:=l.set w.1 (w.2.take c++(at' l w.1).drop c)
inductive Img:List Bytes→List WrL→List Bytes→Prop
 | nil (l:List Bytes):Img l [] l
 | cons {l l':List Bytes} {w:WrL} {p:List WrL} (c:Nat):Img (tornW l w c) p l'→Img l (w::p) l'
theorem tornW_length(l:List Bytes)(w:WrL)(c:Nat):(tornW l w c).length=l.length:=by simp[tornW]
theorem tornW_get(l:List Bytes)(w:WrL)(c i:Nat)(hw:w.1<l.length):at' (tornW l w c) i=if w.1=i then w.2.take c++(at' l i).drop c else at' l i:=by
 unfold tornW at'
 by_cases h:w.1=i
 ·subst h;rw[if_pos rfl,List.getD_eq_getElem?_getD,List.getElem?_set_self hw];rfl
 ·rw[if_neg h,List.getD_eq_getElem?_getD,List.getElem?_set_ne h,List.getD_eq_getElem?_getD]
theorem tornW_all(l:List Bytes)(w:WrL)(c:Nat)(hl:∀s∈l,s.length=256)(hw:w.1<l.length)(hs:w.2.length=256):∀s∈tornW l w c,s.length=256:=by
 intro s h
 rcases List.mem_or_eq_of_mem_set h with h|rfl
 ·exact hl s h
 ·have:=DevL.getD_mem_length hl hw
  simp only[List.length_append,List.length_take,List.length_drop,hs,this];omega
theorem Img.len{l l':List Bytes}{p:List WrL}(h:Img l p l'):l'.length=l.length:=by
 induction h with
 | nil l=>rfl
 | cons c _ ih=>rw[ih,tornW_length]
theorem Img.all{l l':List Bytes}{p:List WrL}(h:Img l p l')(hl:∀s∈l,s.length=256)(hp:∀w∈p,w.1<l.length∧w.2.length=256):∀s∈l',s.length=256:=by
 induction h with
 | nil l=>exact hl
 | cons c _ ih =>
  refine ih (tornW_all _ _ _ hl (hp _ (List.mem_cons_self ..)).1 (hp _ (List.mem_cons_self ..)).2) (fun x hx=>?_)
  rw[tornW_length];exact hp x (List.mem_cons_of_mem _ hx)
theorem Img.pres{l l':List Bytes}{p:List WrL}(h:Img l p l')(i:Nat)(Pd:Bytes→Prop)(hl:∀s∈l,s.length=256)(hi:i<l.length)(hp:∀w∈p,w.1<l.length∧w.2.length=256)
  (hk:∀w∈p,w.1=i→∀b c,Pd b→b.length=256→Pd (w.2.take c++b.drop c)) (h0:Pd (at' l i)):Pd (at' l' i):=by
 induction h with
 | nil l=>exact h0
 | @cons l l' w p c _ ih =>
  have hw:=hp w (List.mem_cons_self ..)
  refine ih (tornW_all _ _ _ hl hw.1 hw.2) (by rw[tornW_length];exact hi) (fun x hx=>by rw[tornW_length];exact hp x (List.mem_cons_of_mem _ hx)) (fun x hx=>hk x (List.mem_cons_of_mem _ hx)) ?_
  rw[tornW_get _ _ _ _ hw.1]
  by_cases h:w.1=i
  ·rw[if_pos h];exact hk w (List.mem_cons_self ..) h _ _ h0 (DevL.getD_mem_length hl hi)
  ·rw[if_neg h];exact h0
theorem Img.same{l l':List Bytes}{p:List WrL}(h:Img l p l')(i:Nat)(hp:∀w∈p,w.1<l.length)(hn:∀w∈p,w.1≠i):at' l' i=at' l i:=by
 induction h with
 | nil l=>rfl
 | @cons l l' w p c _ ih =>
  rw[ih (fun x hx=>by rw[tornW_length];exact hp x (List.mem_cons_of_mem _ hx)) (fun x hx=>hn x (List.mem_cons_of_mem _ hx)),tornW_get _ _ _ _ (hp w (List.mem_cons_self ..)),if_neg (hn w (List.mem_cons_self ..))]
theorem Img.split{l l':List Bytes}{p q:List WrL}(h:Img l (p++q) l'):∃l1,Img l p l1∧Img l1 q l':=by
 induction p generalizing l with
 | nil=>exact⟨l,.nil l,h⟩
 | cons w p ih =>
  cases h with
  | cons c h =>
   obtain⟨l1,h1,h2⟩:=ih h
   exact⟨l1,.cons c h1,h2⟩
theorem Img.one{l l':List Bytes}{w:WrL}(h:Img l [w] l'):∃c,l'=tornW l w c:=by
 cases h with
 | cons c h=>cases h;exact⟨c,rfl⟩
theorem set_at(l:List Bytes)(i:Nat)(h:i<l.length):l.set i (at' l i)=l:=by
 unfold at';rw[List.getD_eq_getElem?_getD,List.getElem?_eq_getElem h,Option.getD_some,List.set_getElem_self]
theorem crash1_torn(keep:List Bool)(torn:Int)(cut k:Nat)(l:List Bytes)(w:WrL)(hl:∀s∈l,s.length=256)(hw:w.1<l.length)(hs:w.2.length=256):∃c,DevL.crash1 keep torn cut k l w=tornW l w c:=by
 unfold DevL.crash1
 split
 ·refine⟨256,?_⟩
  unfold tornW
  rw[List.take_of_length_le (by omega),List.drop_of_length_le (by rw[DevL.getD_mem_length hl hw];exact Nat.le_refl _),List.append_nil]
 ·split
  ·exact⟨cut,rfl⟩
  ·refine⟨0,?_⟩
   unfold tornW
   rw[List.take_zero,List.nil_append,List.drop_zero,set_at l _ hw]
theorem crashL_img(keep:List Bool)(torn:Int)(cut:Nat)(p:List WrL):∀(k:Nat) (l:List Bytes),(∀s∈l,s.length=256)→(∀w∈p,w.1<l.length∧w.2.length=256)→Img l p (DevL.crashL keep torn cut k l p):=by
 induction p with
 | nil=>intro k l _ _;exact .nil l
 | cons w p ih =>
  intro k l hl hp
  have hw:=hp w (List.mem_cons_self ..)
  obtain⟨c,hc⟩:=crash1_torn keep torn cut k l w hl hw.1 hw.2
  rw[DevL.crashL,hc]
  exact .cons c (ih _ _ (tornW_all _ _ _ hl hw.1 hw.2) (fun x hx=>by rw[tornW_length];exact hp x (List.mem_cons_of_mem _ hx)))
theorem crash_img{d:DevL}(h:d.Ok)(keep:List Bool)(torn cut:Int):Img d.l d.p (d.crash keep torn cut).l:=crashL_img keep torn _ d.p 0 d.l h.l h.p
def logAt(s:SlotL)(k:Nat):Nat:=2+(s.place+k)%s.log
theorem logAt_lt(s:SlotL)(k:Nat)(h:0<s.log):2≤logAt s k∧logAt s k<2+s.log:=by
 have:=Nat.mod_lt (s.place+k) h;unfold logAt;omega
theorem logAt_inj(s:SlotL)(hp:s.place<s.log)(i j:Nat)(hi:i<s.log)(hj:j<s.log)(h:logAt s i=logAt s j):i=j:=by
 unfold logAt at h
 have h':(s.place+i)%s.log=(s.place+j)%s.log:=by omega
 have e:∀k,k<s.log→(s.place+k)%s.log=if s.place+k<s.log then s.place+k else s.place+k-s.log:=fun k hk=>by
  split
  ·exact Nat.mod_eq_of_lt (by assumption)
  ·rw[Nat.mod_eq_sub_mod (by omega),Nat.mod_eq_of_lt (by omega)]
 rw[e i hi,e j hj] at h'
 split at h'<;>split at h'<;>omega
def usedF(u:Nat)(fr:List (List WrL)):Nat:=fr.foldl (fun u ws=>u+ws.length+1) u
theorem usedF_cons(u:Nat)(ws:List WrL)(fr:List (List WrL)):usedF u (ws::fr)=usedF (u+ws.length+1) fr:=rfl
theorem usedF_snoc(u:Nat)(fr:List (List WrL))(ws:List WrL):usedF u (fr++[ws])=usedF u fr+ws.length+1:=by simp[usedF]
theorem usedF_le(u:Nat)(fr:List (List WrL)):u≤usedF u fr:=by
 induction fr generalizing u with
 | nil=>exact Nat.le_refl _
 | cons ws fr ih=>rw[usedF_cons];have:=ih (u+ws.length+1);omega
def Chain(l:List Bytes)(s:SlotL):Nat→Nat→List (List WrL)→Prop
 | u,q,[]=>u<s.log∧(at' l (logAt s u)).drop 252≠endT
 | u,q,ws::fr=>WrOk ws∧(∀w∈ws,2+s.log≤w.1∧w.1<l.length)∧u+ws.length+1<s.log ∧
  (∀i,i≤ws.length→at' l (logAt s (u+i))=(packL q ws).getD i [])∧Chain l s (u+ws.length+1) (q+1) fr
theorem Chain.used{l:List Bytes}{s:SlotL}:∀{fr:List (List WrL)} {u q:Nat},Chain l s u q fr→usedF u fr<s.log
 | [],u,q,h=>h.1
 | ws::fr,u,q,h=>by rw[usedF_cons];exact h.2.2.2.2.used
theorem Chain.end{l:List Bytes}{s:SlotL}:∀{fr:List (List WrL)} {u q:Nat},Chain l s u q fr→(at' l (logAt s (usedF u fr))).drop 252≠endT
 | [],u,q,h=>h.2
 | ws::fr,u,q,h=>by rw[usedF_cons];exact h.2.2.2.2.end
theorem Chain.ok{l:List Bytes}{s:SlotL}:∀{fr:List (List WrL)} {u q:Nat},Chain l s u q fr→∀ws∈fr,WrOk ws∧∀w∈ws,2+s.log≤w.1∧w.1<l.length
 | [],u,q,h=>fun ws hws=>by simp at hws
 | x::fr,u,q,h=>fun ws hws=>by
  rcases List.mem_cons.1 hws with rfl|hws
  ·exact⟨h.1,h.2.1⟩
  ·exact h.2.2.2.2.ok ws hws
theorem Chain.ext{l l':List Bytes}{s:SlotL}(hlen:l'.length=l.length):∀{fr:List (List WrL)} {u q:Nat},Chain l s u q fr→(∀k,k<usedF u fr→at' l' (logAt s k)=at' l (logAt s k))→(at' l' (logAt s (usedF u fr))).drop 252≠endT→Chain l' s u q fr
 | [],u,q,h,_,he=>⟨h.1,he⟩
 | ws::fr,u,q,h,hk,he=>by
  have hu:=usedF_le (u+ws.length+1) fr
  refine⟨h.1,by rw[hlen];exact h.2.1,h.2.2.1,fun i hi=>?_,h.2.2.2.2.ext hlen hk he⟩
  rw[hk (u+i) (by rw[usedF_cons];omega)]
  exact h.2.2.2.1 i hi
theorem Chain.snoc{l l':List Bytes}{s:SlotL}(hlen:l'.length=l.length)(ws:List WrL)(hw:WrOk ws)(hh:∀w∈ws,2+s.log≤w.1∧w.1<l.length):∀{fr:List (List WrL)} {u q:Nat},Chain l s u q fr→(∀k,k<usedF u fr→at' l' (logAt s k)=at' l (logAt s k)) →
  usedF u fr+ws.length+1<s.log→(∀i,i≤ws.length→at' l' (logAt s (usedF u fr+i))=(packL (q+fr.length) ws).getD i [])→(at' l' (logAt s (usedF u fr+ws.length+1))).drop 252≠endT→Chain l' s u q (fr++[ws])
 | [],u,q,h,hk,h1,h2,he=>⟨hw,by rw[hlen];exact hh,h1,h2,h1,he⟩
 | x::fr,u,q,h,hk,h1,h2,he=>by
  have hu:=usedF_le (u+x.length+1) fr
  refine⟨h.1,by rw[hlen];exact h.2.1,h.2.2.1,fun i hi=>?_,Chain.snoc hlen ws hw hh h.2.2.2.2 hk h1 (fun i hi=>?_) he⟩
  ·rw[hk (u+i) (by rw[usedF_cons];omega)]
   exact h.2.2.2.1 i hi
  ·have:=h2 i hi
   rw[List.length_cons,usedF_cons] at this
   rw[this]
   congr 2;omega
def nextS(s:SlotL)(fr:List (List WrL)):SlotL:=⟨s.e+1,s.s+fr.length,s.log,(s.place+usedF 0 fr)%s.log⟩
def OldX(X:Bytes)(s:SlotL):Prop:=X=noughtsL∨∃r:SlotL,r.Ok∧X=slotT r∧r.e<s.e
def OtherOk(X:Bytes)(s s':SlotL):Prop:=∃c X0,OldX X0 s∧X=(slotT s').take c++X0.drop c∧X≠slotT s'
theorem OldX.len{X:Bytes}{s:SlotL}(h:OldX X s):X.length=256:=by
 rcases h with rfl|⟨r,_,rfl,_⟩
 ·exact List.length_replicate
 ·exact slotT_length r
theorem slotT_inj{s r:SlotL}(hs:s.Ok)(hr:r.Ok)(h:slotT s=slotT r):s=r:=by
 have h1:=slotOf_h s hs (slotH s)
 have h2:=slotOf_h r hr (slotH r)
 rw[show slotH s++slotH s=slotT s from rfl,h,show slotT r=slotH r++slotH r from rfl,h2] at h1
 exact h1.symm
theorem slotH_inj{s r:SlotL}(hs:s.Ok)(hr:r.Ok)(h:slotH s=slotH r):s=r:=slotT_inj hs hr (by rw[slotT,slotT,h])
theorem OtherOk.less{X:Bytes}{s s':SlotL}(h:OtherOk X s s')(ho:s'.Ok)(n:Nat)(r:SlotL)(hr:toSlotL X n=some r):r.e<s.e:=by
 obtain⟨c,X0,h0,rfl,hne⟩:=h
 rcases toSlot_torn s' ho X0 h0.len c n r hr with ⟨_,hw⟩|hh
 ·exact absurd hw hne
 ·rcases h0 with rfl|⟨q,hq,rfl,hl⟩
  ·have:=congrArg (fun t:Bytes=>t[0]?) hh
   simp only[noughtsL,slotH,magicS,List.drop_replicate,List.getElem?_replicate,List.cons_append,List.getElem?_cons_zero] at this
   exact absurd this (by decide)
  ·rw[slotT,drop_app _ _ _ (slotH_length q)] at hh
   rw[slotH_inj (toSlot_ok hr) hq hh];exact hl
theorem torn_torn(a b:Bytes)(ha:a.length=256)(hb:b.length=256)(c d:Nat):a.take d++(a.take c++b.drop c).drop d=a.take (max c d)++b.drop (max c d):=by
 have hlen:(a.take c).length=min c 256:=by rw[List.length_take,ha]
 rw[List.drop_append,hlen,List.drop_drop]
 by_cases h:d≤c
 ·rw[Nat.max_eq_left h,←List.append_assoc]
  congr 1
  ·rw[List.drop_take,show List.take c a=List.take (d+(c-d)) a by rw[Nat.add_sub_cancel' h],List.take_add]
  ·by_cases hc:c≤256
   ·congr 1;omega
   ·rw[List.drop_of_length_le (by rw[hb];omega),List.drop_of_length_le (by rw[hb];omega)]
 ·rw[Nat.max_eq_right (by omega),List.drop_of_length_le (by rw[hlen];omega),List.nil_append]
  by_cases hc:c≤256
  ·congr 2;omega
  ·rw[List.drop_of_length_le (by rw[hb];omega),List.drop_of_length_le (by rw[hb];omega)]
structure RecS (l:List Bytes) (s:SlotL) (k:Nat) (fr:List (List WrL)) (C:Nat→Bytes):Prop where
 hmax:l.length≤4096
 hall:∀b∈l,b.length=256
 hleast:50≤s.log
 hlog:s.log+3≤l.length
 hplace:s.place<s.log
 he:s.e+1<18446744073709551616
 hs:s.s+fr.length<18446744073709551616
 hk:k≤1
 hslot:at' l k=slotT s
 hother:OtherOk (at' l (1-k)) s (nextS s fr)
 hchain:Chain l s 0 s.s fr
 hhome:∀i,2+s.log≤i→i<l.length→lastP fr.flatten i (at' l i)=C i
theorem RecS.ok{l:List Bytes}{s:SlotL}{k:Nat}{fr:List (List WrL)}{C:Nat→Bytes}(h:RecS l s k fr C):s.Ok∧(nextS s fr).Ok:=by
 have h1:=h.hmax;have h2:=h.hlog;have h3:=h.hplace;have h4:=h.he;have h5:=h.hs
 have:=Nat.mod_lt (s.place+usedF 0 fr) (show 0<s.log by omega)
 refine⟨⟨by omega,by omega,by omega,by omega⟩,⟨?_,?_,?_,?_⟩⟩<;>simp only[nextS]<;>omega
def pickS(l0 l1:Option SlotL):Option (SlotL×Nat) :=
 match l0,l1 with
 | some a,some b=>if a.e<b.e then some (b,1) else some (a,0)
 | some a,none=>some (a,0)
 | none,some b=>some (b,1)
 | none,none=>none
theorem RecS.pick{l:List Bytes}{s:SlotL}{k:Nat}{fr:List (List WrL)}{C:Nat→Bytes}(h:RecS l s k fr C):pickS (toSlotL (at' l 0) l.length) (toSlotL (at' l 1) l.length)=some (s,k):=by
 have hs:=toSlot_text s h.ok.1 l.length h.hleast h.hlog h.hplace
 have ho:=fun r hr=>h.hother.less h.ok.2 l.length r hr
 have hsl:=h.hslot
 have hk:k=0∨k=1:=by have:=h.hk;omega
 rcases hk with rfl|rfl
 ·rw[hsl,hs]
  cases hr:toSlotL (at' l 1) l.length with
  | none=>rfl
  | some r =>
   have:=ho r hr
   simp only[pickS]
   rw[if_neg (by omega)]
 ·rw[hsl,hs]
  cases hr:toSlotL (at' l 0) l.length with
  | none=>rfl
  | some r =>
   have:=ho r hr
   simp only[pickS]
   rw[if_pos this]
def Allowed(s:SlotL)(fr:List (List WrL))(w:WrL):Prop :=
 (2+s.log≤w.1∧∃x∈fr.flatten,x.1=w.1)∨∃k,usedF 0 fr≤k∧k<s.log∧w.1=logAt s k∧(k=usedF 0 fr→w.2=noughtsL)
theorem endT_torn(b:Bytes)(hb:b.length=256)(h:b.drop 252≠endT)(c:Nat):(noughtsL.take c++b.drop c).drop 252≠endT:=by
 have hn:noughtsL.length=256:=List.length_replicate
 by_cases hc:c≤252
 ·rw[List.drop_append,List.length_take,hn,List.drop_drop,List.drop_of_length_le (by rw[List.length_take,hn];omega),List.nil_append,show c+(252-min c 256)=252 by omega]
  exact h
 ·intro he
  have h0:=congrArg (fun t:Bytes=>t[0]?) he
  simp only[List.getElem?_drop] at h0
  rw[List.getElem?_append_left (by rw[List.length_take,hn];omega),List.getElem?_take,if_pos (by omega)] at h0
  exact absurd h0 (by unfold noughtsL endT;rw[List.getElem?_replicate];simp)
theorem RecS.img{l l':List Bytes}{s:SlotL}{k:Nat}{fr:List (List WrL)}{C:Nat→Bytes}(h:RecS l s k fr C){p:List WrL}(hp:∀w∈p,w.1<l.length∧w.2.length=256)(ha:∀w∈p,Allowed s fr w)(hi:Img l p l'):RecS l' s k fr C:=by
 have hlog:=h.hlog;have hleast:=h.hleast;have hk:=h.hk
 have h2:∀w∈p,2≤w.1:=fun w hw=>by
  rcases ha w hw with ⟨h1,_⟩|⟨k,_,_,h1,_⟩
  ·omega
  ·have:=(logAt_lt s k (by omega)).1;omega
 have hlt:=fun w hw=>(hp w hw).1
 have hu:=h.hchain.used
 have hlow:∀j,j<2→at' l' j=at' l j:=fun j hj=>hi.same j hlt (fun w hw=>by have:=h2 w hw;omega)
 refine⟨by rw[hi.len];exact h.hmax,hi.all h.hall hp,hleast,by rw[hi.len];exact hlog,h.hplace,h.he,h.hs,hk,by rw[hlow k (by omega)];exact h.hslot,by rw[hlow (1-k) (by omega)];exact h.hother,?_,?_⟩
 ·refine h.hchain.ext hi.len (fun j hj=>hi.same _ hlt (fun w hw he=>?_)) ?_
  ·have hl:=logAt_lt s j (by omega)
   rcases ha w hw with ⟨h1,_⟩|⟨m,hm1,hm2,hm3,_⟩
   ·omega
   ·have:=logAt_inj s h.hplace j m (by omega) hm2 (by rw[←he,hm3])
    omega
  ·have hl:=logAt_lt s (usedF 0 fr) (by omega)
   refine hi.pres _ (fun b=>b.drop 252≠endT) h.hall (by omega) hp (fun w hw he b c hb hbl=>?_) h.hchain.end
   rcases ha w hw with ⟨h1,_⟩|⟨m,hm1,hm2,hm3,hm4⟩
   ·omega
   ·rw[hm4 (logAt_inj s h.hplace m _ hm2 hu (by rw[←hm3,he]))]
    exact endT_torn b hbl hb c
 ·intro i h1 hn
  rw[hi.len] at hn
  by_cases hx:∃x∈fr.flatten,x.1=i
  ·rw[lastP_some _ _ _ (at' l i) hx];exact h.hhome i h1 hn
  ·rw[hi.same i hlt (fun w hw he=>?_)]
   ·exact h.hhome i h1 hn
   ·rcases ha w hw with ⟨_,x,hx',hxe⟩|⟨m,_,hm2,hm3,_⟩
    ·exact hx ⟨x,hx',hxe.trans he⟩
    ·have:=(logAt_lt s m (by omega)).2;omega
theorem RecS.slotW{l:List Bytes}{s:SlotL}{k:Nat}{fr:List (List WrL)}{C:Nat→Bytes}(h:RecS l s k fr C)(hC:∀i,2+s.log≤i→i<l.length→at' l i=C i)(he:s.e+2<18446744073709551616)(c:Nat):
  RecS (tornW l (1-k,slotT (nextS s fr)) c) s k fr C∨(RecS (tornW l (1-k,slotT (nextS s fr)) c) (nextS s fr) (1-k) [] C∧tornW l (1-k,slotT (nextS s fr)) c=l.set (1-k) (slotT (nextS s fr))):=by
 have hlog:=h.hlog;have hleast:=h.hleast;have hk:=h.hk
 obtain⟨hso,hno⟩:=h.ok
 have hlt:1-k<l.length:=by omega
 have hg:=fun j=>tornW_get l (1-k,slotT (nextS s fr)) c j hlt
 have hu:=h.hchain.used
 have hend:=h.hchain.end
 have hpl:=Nat.mod_lt (s.place+usedF 0 fr) (show 0<s.log by omega)
 have hle:(nextS s fr).e=s.e+1:=rfl
 have hll:(nextS s fr).log=s.log:=rfl
 obtain⟨c0,X0,ho,hx,hne⟩:=h.hother
 have hform:at' (tornW l (1-k,slotT (nextS s fr)) c) (1-k)=(slotT (nextS s fr)).take (max c0 c)++X0.drop (max c0 c):=by
  rw[hg,if_pos rfl,hx]
  exact torn_torn _ _ (slotT_length _) ho.len c0 c
 have hbase:(tornW l (1-k,slotT (nextS s fr)) c).length≤4096:=by rw[tornW_length];exact h.hmax
 have hall:=tornW_all l (1-k,slotT (nextS s fr)) c h.hall hlt (slotT_length _)
 have hself:at' (tornW l (1-k,slotT (nextS s fr)) c) k=slotT s:=by rw[hg,if_neg (by simp only;omega)];exact h.hslot
 have hothers:∀j,2≤j→at' (tornW l (1-k,slotT (nextS s fr)) c) j=at' l j:=fun j hj=>by rw[hg,if_neg (by simp only;omega)]
 by_cases hw:at' (tornW l (1-k,slotT (nextS s fr)) c) (1-k)=slotT (nextS s fr)
 ·right
  constructor
  ·refine⟨hbase,hall,hleast,by rw[tornW_length];exact hlog,hpl,by rw[hle];omega,?_,by omega,hw,?_,?_,?_⟩
   ·have:=h.hs;simp only[nextS,List.length_nil];omega
   ·rw[show 1-(1-k)=k by omega,hself]
    refine⟨0,slotT s,.inr ⟨s,hso,rfl,by rw[hle];omega⟩,by simp,fun e=>?_⟩
    have ho2:(nextS (nextS s fr) []).Ok:=by
     refine⟨?_,?_,?_,?_⟩
     ·show s.e+1+1<_;omega
     ·have:=h.hs;show s.s+fr.length+0<_;omega
     ·have:=h.hmax;show s.log<_;omega
     ·have:=Nat.mod_lt ((s.place+usedF 0 fr)%s.log+0) (show 0<s.log by omega);have:=h.hmax
      show((s.place+usedF 0 fr)%s.log+usedF 0 [])%s.log<_
      simp only[usedF,List.foldl_nil] at *;omega
    have:=congrArg SlotL.e (slotT_inj hso ho2 e)
    simp only[nextS] at this;omega
   ·refine⟨by rw[hll];omega,?_⟩
    have e:logAt (nextS s fr) 0=logAt s (usedF 0 fr):=by
     show 2+((s.place+usedF 0 fr)%s.log+0)%s.log=2+(s.place+usedF 0 fr)%s.log
     rw[Nat.add_zero,Nat.mod_mod]
    have hl:=logAt_lt s (usedF 0 fr) (by omega)
    rw[e,hothers _ hl.1];exact hend
   ·intro i h1 h2
    rw[tornW_length] at h2
    rw[hll] at h1
    rw[hothers i (by omega)]
    exact hC i h1 h2
  ·refine List.ext_getElem (by rw[tornW_length,List.length_set]) (fun j h1 h2=>?_)
   rw[tornW_length] at h1
   by_cases hj:j=1-k
   ·subst hj
    rw[List.getElem_set_self]
    have hz:=hw
    unfold at' at hz
    rw[List.getD_eq_getElem?_getD,List.getElem?_eq_getElem (by rw[tornW_length];exact h1)] at hz
    exact hz
   ·simp only[tornW]
    rw[List.getElem_set_ne (Ne.symm hj),List.getElem_set_ne (Ne.symm hj)]
 ·left
  refine⟨hbase,hall,hleast,by rw[tornW_length];exact hlog,h.hplace,h.he,h.hs,hk,hself,⟨max c0 c,X0,ho,hform,hw⟩,?_,?_⟩
  ·refine h.hchain.ext (tornW_length _ _ _) (fun j hj=>hothers _ (logAt_lt s j (by omega)).1) ?_
   rw[hothers _ (logAt_lt s _ (by omega)).1];exact hend
  ·intro i h1 h2
   rw[tornW_length] at h2
   rw[hothers i (by omega)]
   exact h.hhome i h1 h2
namespace DevL
theorem chk_in{d:DevL}(hd:d.dead=false)(i:Nat)(h:i<d.l.length):d.chk i=0:=by
 unfold chk;rw[hd,if_neg (by decide),if_pos ⟨by omega,by omega⟩]
theorem writes_run(ws:List WrL):∀(d:DevL),d.dead=false→(∀w∈ws,w.1<d.l.length∧w.2.length=256) →
  ((d.writes ws).2=0∧(d.writes ws).1.dead=false∧(d.writes ws).1.l=d.l∧(d.writes ws).1.p=d.p++ws) ∨
  ((d.writes ws).2=4∧(d.writes ws).1.dead=true∧(d.writes ws).1.l=d.l∧∃k,(d.writes ws).1.p=d.p++ws.take k):=by
 induction ws with
 | nil=>intro d hd _;exact .inl ⟨rfl,hd,rfl,by simp[writes]⟩
 | cons w ws ih =>
  intro d hd hw
  have h1:=hw w (List.mem_cons_self ..)
  have hc:=chk_in hd w.1 h1.1
  by_cases hf:d.fuse=0
  ·right
   have e:d.write w.1 w.2=(d.turn,4):=by
    unfold write;rw[if_neg (by rw[hc];simp),if_neg (by rw[h1.2];simp),if_pos hf]
   rw[writes,e,if_neg (by simp)]
   refine⟨rfl,by unfold turn;rw[if_pos hf],(turn_l d).1,0,?_⟩
   rw[List.take_zero,List.append_nil];exact(turn_l d).2
  ·have e:d.write w.1 w.2=({ d.turn with p:=d.p++[w] },0):=by
    unfold write;rw[if_neg (by rw[hc];simp),if_neg (by rw[h1.2];simp),if_neg hf];rfl
   have ht:d.turn.dead=false:=by unfold turn;rw[if_neg hf];exact hd
   rw[writes,e,if_pos rfl]
   have:=ih { d.turn with p:=d.p++[w] } ht (fun x hx=>by show x.1<d.turn.l.length∧_;rw[(turn_l d).1];exact hw x (List.mem_cons_of_mem _ hx))
   rw[show({ d.turn with p:=d.p++[w] }:DevL).l=d.l from(turn_l d).1] at this
   rcases this with ⟨a,b,c,e⟩|⟨a,b,c,k,e⟩
   ·exact .inl ⟨a,b,c,by rw[e,List.append_assoc];rfl⟩
   ·exact .inr ⟨a,b,c,k+1,by rw[e,List.append_assoc];rfl⟩
theorem flush_run(d:DevL)(hd:d.dead=false):
  (d.flush.2=0∧d.flush.1.dead=false∧d.flush.1.l=layP d.l d.p∧d.flush.1.p=[])∨(d.flush.2=4∧d.flush.1.dead=true∧d.flush.1.l=d.l∧d.flush.1.p=d.p):=by
 by_cases hf:d.fuse=0
 ·right
  have e:d.flush=(d.turn,4):=by unfold flush;rw[hd,if_neg (by decide),if_pos hf]
  rw[e]
  exact⟨rfl,by unfold turn;rw[if_pos hf],(turn_l d).1,(turn_l d).2⟩
 ·left
  have e:d.flush=({ d.turn with l:=layP d.l d.p,p:=[] },0):=by unfold flush;rw[hd,if_neg (by decide),if_neg hf]
  rw[e]
  exact⟨rfl,by show d.turn.dead=_;unfold turn;rw[if_neg hf];exact hd,rfl,rfl⟩
def lays(d:DevL)(ws:List WrL):DevL×Int:=if (d.writes ws).2=0 then(d.writes ws).1.flush else d.writes ws
theorem lays_ok{d:DevL}(h:d.Ok)(ws:List WrL):(d.lays ws).1.Ok:=by
 unfold lays
 split
 ·exact flush_ok (writes_ok h ws)
 ·exact writes_ok h ws
theorem lays_run(ws:List WrL)(d:DevL)(hd:d.dead=false)(hw:∀w∈ws,w.1<d.l.length∧w.2.length=256):
  ((d.lays ws).2=0∧(d.lays ws).1.dead=false∧(d.lays ws).1.l=layP d.l (d.p++ws)∧(d.lays ws).1.p=[]) ∨
  ((d.lays ws).2=4∧(d.lays ws).1.dead=true∧(d.lays ws).1.l=d.l∧∃k,(d.lays ws).1.p=d.p++ws.take k):=by
 unfold lays
 rcases writes_run ws d hd hw with ⟨a,b,c,e⟩|⟨a,b,c,k,e⟩
 ·rw[if_pos a]
  rcases flush_run _ b with ⟨a2,b2,c2,e2⟩|⟨a2,b2,c2,e2⟩
  ·exact .inl ⟨a2,b2,by rw[c2,c,e],e2⟩
  ·exact .inr ⟨a2,b2,by rw[c2,c],ws.length,by rw[e2,e,List.take_length]⟩
 ·rw[if_neg (by rw[a];decide)]
  exact .inr ⟨a,b,c,k,e⟩
theorem writes_free(ws:List WrL):∀(d:DevL),d.dead=false→d.fuse = -1→(∀w∈ws,w.1<d.l.length∧w.2.length=256)→(d.writes ws).2=0∧(d.writes ws).1.fuse = -1:=by
 induction ws with
 | nil=>intro d _ hf _;exact⟨rfl,hf⟩
 | cons w ws ih =>
  intro d hd hf hw
  have h1:=hw w (List.mem_cons_self ..)
  have hc:=chk_in hd w.1 h1.1
  have hf0:d.fuse≠0:=by omega
  have e:d.write w.1 w.2=({ d.turn with p:=d.p++[w] },0):=by
   unfold write;rw[if_neg (by rw[hc];simp),if_neg (by rw[h1.2];simp),if_neg hf0];rfl
  have ht:d.turn.dead=false∧d.turn.fuse = -1:=by
   unfold turn;rw[if_neg hf0]
   refine⟨hd,?_⟩
   simp only[hf];decide
  rw[writes,e,if_pos rfl]
  exact ih { d.turn with p:=d.p++[w] } ht.1 ht.2 (fun x hx=>by show x.1<d.turn.l.length∧_;rw[(turn_l d).1];exact hw x (List.mem_cons_of_mem _ hx))
theorem flush_free(d:DevL)(hd:d.dead=false)(hf:d.fuse = -1):d.flush.2=0∧d.flush.1.fuse = -1:=by
 have hf0:d.fuse≠0:=by omega
 have e:d.flush=({ d.turn with l:=layP d.l d.p,p:=[] },0):=by unfold flush;rw[hd,if_neg (by decide),if_neg hf0]
 rw[e]
 refine⟨rfl,?_⟩
 show d.turn.fuse = -1
 unfold turn;rw[if_neg hf0]
 simp only[hf];decide
theorem lays_free(ws:List WrL)(d:DevL)(hd:d.dead=false)(hf:d.fuse = -1)(hw:∀w∈ws,w.1<d.l.length∧w.2.length=256):(d.lays ws).2=0∧(d.lays ws).1.fuse = -1:=by
 have h1:=writes_free ws d hd hf hw
 unfold lays
 rw[if_pos h1.1]
 refine flush_free _ ?_ h1.2
 rcases writes_run ws d hd hw with ⟨a,b,_⟩|⟨a,_⟩
 ·exact b
 ·rw[a] at h1;exact absurd h1.1 (by decide)
end DevL
theorem lay_img(p:List WrL):∀(l:List Bytes),(∀s∈l,s.length=256)→(∀w∈p,w.1<l.length∧w.2.length=256)→Img l p (layP l p):=by
 induction p with
 | nil=>intro l _ _;exact .nil l
 | cons w p ih =>
  intro l hl hp
  have hw:=hp w (List.mem_cons_self ..)
  have e:tornW l w 256=l.set w.1 w.2:=by
   unfold tornW
   rw[List.take_of_length_le (by omega),List.drop_of_length_le (by rw[DevL.getD_mem_length hl hw.1];exact Nat.le_refl _),List.append_nil]
  refine .cons 256 ?_
  rw[e]
  exact ih _ (by rw[←e];exact tornW_all _ _ _ hl hw.1 hw.2) (fun x hx=>by rw[List.length_set];exact hp x (List.mem_cons_of_mem _ hx))
theorem layP_at(l:List Bytes)(p:List WrL)(i:Nat)(h:i<l.length):at' (layP l p) i=lastP p i (at' l i):=layP_get l p i h
structure JL where
 d:DevL
 s:SlotL
 k:Nat
 next:Nat
 used:Nat
namespace JL
def place(j:JL)(n:Nat):Nat:=logAt j.s (j.used+n)
def home(j:JL):Nat:=2+j.s.log
def frame(j:JL):Option (List WrL) :=
 match unpackL ((List.range (min (j.s.log-j.used) 49)).map fun i=>j.d.get (j.place i)) with
 | some (seq,ws)=>if seq=j.next∧∀w∈ws,j.home≤w.1∧w.1<j.d.l.length then some ws else none
 | none=>none
def advance(j:JL)(n:Nat):JL:={ j with used:=j.used+n+1,next:=(j.next+1)%18446744073709551616 }
def replay:Nat→JL→JL×Int
 | 0,j=>(j,0)
 | n+1,j =>
  match j.frame with
  | none=>(j,0)
  | some ws=>if (j.d.writes ws).2=0 then replay n ({ j with d:=(j.d.writes ws).1 }.advance ws.length) else({ j with d:=(j.d.writes ws).1 },(j.d.writes ws).2)
def nextSlot(j:JL):SlotL:=⟨(j.s.e+1)%18446744073709551616,j.next,j.s.log,(j.s.place+j.used)%j.s.log⟩
def ckpt1(j:JL):DevL×Int:=j.d.lays [(j.place 0,noughtsL)]
def ckpt2(j:JL):DevL×Int:=j.ckpt1.1.lays [(1-j.k,slotT j.nextSlot)]
def ckpt(j:JL):JL×Int :=
 if j.ckpt1.2≠0 then({ j with d:=j.ckpt1.1 },j.ckpt1.2) else if j.ckpt2.2≠0 then({ j with d:=j.ckpt2.1 },j.ckpt2.2) else(⟨j.ckpt2.1,j.nextSlot,1-j.k,j.next,0⟩,0)
def logW(j:JL)(ws:List WrL):List WrL:=(ws.map (·.2)++[noughtsL]).zipIdx.map fun x=>(j.place (x.2+1),x.1)
def com1(j:JL)(ws:List WrL):DevL×Int:=j.d.lays (j.logW ws)
def com2(j:JL)(ws:List WrL):DevL×Int:=(j.com1 ws).1.lays [(j.place 0,headL j.next ws)]
def com3(j:JL)(ws:List WrL):DevL×Int:=(j.com2 ws).1.writes ws
def com(j:JL)(ws:List WrL):JL×Int :=
 if (j.com1 ws).2≠0 then({ j with d:=(j.com1 ws).1 },(j.com1 ws).2) else if (j.com2 ws).2≠0 then({ j with d:=(j.com2 ws).1 },(j.com2 ws).2) else
 ({ j with d:=(j.com3 ws).1 }.advance ws.length,(j.com3 ws).2)
def commit(j:JL)(ws:List WrL):JL×Int :=
 if ws.length+2>j.s.log-j.used then(if j.ckpt.2≠0 then j.ckpt else j.ckpt.1.com ws) else j.com ws
end JL
def openJ(d:DevL):JL×Int :=
 if d.dead then(⟨d,⟨0,0,0,0⟩,0,0,0⟩,4) else
 match pickS (toSlotL (d.get 0) d.l.length) (toSlotL (d.get 1) d.l.length) with
 | none=>(⟨d,⟨0,0,0,0⟩,0,0,0⟩,10)
 | some (s,k)=>if (JL.replay (s.log+1) ⟨d,s,k,s.s,0⟩).2=0 then(JL.replay (s.log+1) ⟨d,s,k,s.s,0⟩).1.ckpt else JL.replay (s.log+1) ⟨d,s,k,s.s,0⟩
def RecK(lg K:Nat)(l:List Bytes)(C:Nat→Bytes):Prop:=∃s k fr,RecS l s k fr C∧s.log=lg∧s.e≤K∧s.s+fr.length≤K
theorem RecK.mono{lg K K':Nat}{l:List Bytes}{C:Nat→Bytes}(h:RecK lg K l C)(hk:K≤K'):RecK lg K' l C:=by
 obtain⟨s,k,fr,h1,h2,h3,h4⟩:=h
 exact⟨s,k,fr,h1,h2,by omega,by omega⟩
def Safe(lg K:Nat)(d:DevL)(S:(Nat→Bytes)→Prop):Prop:=∀l',Img d.l d.p l'→∃C,S C∧RecK lg K l' C
theorem Safe.mono{lg K K':Nat}{d:DevL}{S S':(Nat→Bytes)→Prop}(h:Safe lg K d S)(hk:K≤K')(hs:∀C,S C→S' C):Safe lg K' d S':=fun l' hi=>by
 obtain⟨C,h1,h2⟩:=h l' hi
 exact⟨C,hs C h1,h2.mono hk⟩
theorem noughts_not_slot(s:SlotL):noughtsL≠slotT s:=by
 intro h
 have:=congrArg (fun t:Bytes=>t[0]?) h
 simp only[noughtsL,slotT,slotH,magicS,List.getElem?_replicate,List.cons_append,List.getElem?_cons_zero] at this
 exact absurd this (by decide)
theorem OldX.other{X:Bytes}{s s':SlotL}(h:OldX X s)(ho:s'.Ok)(he:s.e≤s'.e):OtherOk X s s':=by
 refine⟨0,X,h,by simp,?_⟩
 rcases h with rfl|⟨r,hr,rfl,hl⟩
 ·exact noughts_not_slot s'
 ·intro e
  have:=slotT_inj hr ho e
  subst this
  omega
structure JPre (lg K:Nat) (j:JL) (fr:List (List WrL)) (C:Nat→Bytes):Prop where
 ok:j.d.Ok
 live:j.d.dead=false
 hrec:RecS j.d.l j.s j.k fr C
 hlog:j.s.log=lg
 he:j.s.e≤K
 hnext:j.next=j.s.s+fr.length
 hnextK:j.next≤K
 hused:j.used=usedF 0 fr
 pend:∀w∈j.d.p,2+lg≤w.1∧∃x∈fr.flatten,x.1=w.1
 get:∀i,2+lg≤i→i<j.d.l.length→j.d.get i=C i
structure JInv (lg K:Nat) (j:JL) (fr:List (List WrL)) (C:Nat→Bytes):Prop extends JPre lg K j fr C where
 old:OldX (at' j.d.l (1-j.k)) j.s
 hend:at' j.d.l (logAt j.s j.used)=noughtsL
 plen:j.d.p.length≤48
theorem JPre.allowed{lg K:Nat}{j:JL}{fr:List (List WrL)}{C:Nat→Bytes}(h:JPre lg K j fr C):∀w∈j.d.p,Allowed j.s fr w:=fun w hw=>.inl (by rw[h.hlog];exact h.pend w hw)
theorem JPre.safe_more{lg K:Nat}{j:JL}{fr:List (List WrL)}{C:Nat→Bytes}(h:JPre lg K j fr C)(q:List WrL)(hq:∀w∈q,(w.1<j.d.l.length∧w.2.length=256)∧Allowed j.s fr w)(d:DevL)(hl:d.l=j.d.l)(hp:d.p=j.d.p++q):Safe lg K d (·=C):=by
 intro l' hi
 rw[hl,hp] at hi
 refine⟨C,rfl,j.s,j.k,fr,h.hrec.img (fun w hw=>?_) (fun w hw=>?_) hi,h.hlog,h.he,by rw[←h.hnext];exact h.hnextK⟩
 ·rcases List.mem_append.1 hw with hw|hw
  ·exact h.ok.p w hw
  ·exact(hq w hw).1
 ·rcases List.mem_append.1 hw with hw|hw
  ·exact h.allowed w hw
  ·exact(hq w hw).2
theorem JPre.safe{lg K:Nat}{j:JL}{fr:List (List WrL)}{C:Nat→Bytes}(h:JPre lg K j fr C):Safe lg K j.d (·=C):=h.safe_more [] (by simp) _ rfl (by simp)
theorem JPre.place_eq{lg K:Nat}{j:JL}{fr:List (List WrL)}{C:Nat→Bytes}(h:JPre lg K j fr C)(n:Nat):j.place n=logAt j.s (usedF 0 fr+n):=by rw[JL.place,h.hused]
theorem take_mem{α:Type}{l:List α}{k:Nat}{x:α}(h:x∈l.take k):x∈l:=List.mem_of_mem_take h
theorem layP_one(l:List Bytes)(w:WrL)(h:w.1<l.length)(hl:∀s∈l,s.length=256)(hw:w.2.length=256):layP l [w]=tornW l w 256:=by
 unfold tornW layP
 rw[List.take_of_length_le (by omega),List.drop_of_length_le (by rw[DevL.getD_mem_length hl h];exact Nat.le_refl _),List.append_nil]
 rfl
theorem noughts_len:noughtsL.length=256:=List.length_replicate
theorem img_take_one{l l':List Bytes}{w:WrL}{k:Nat}(h:Img l ([w].take k) l'):l'=l∨∃c,l'=tornW l w c:=by
 cases k with
 | zero=>left;simp only[List.take_zero] at h;cases h;rfl
 | succ k=>right;simp only[List.take_succ_cons,List.take_nil] at h;exact h.one
theorem ckpt_run{lg K:Nat}{j:JL}{fr:List (List WrL)}{C:Nat→Bytes}(h:JPre lg K j fr C)(hK:K+2<18446744073709551616):
  (j.ckpt.2=0∧JInv lg (K+1) j.ckpt.1 [] C∧j.ckpt.1.d.p=[]∧(j.d.fuse = -1→j.ckpt.1.d.fuse = -1)) ∨
  (j.ckpt.2=4∧j.ckpt.1.d.dead=true∧j.ckpt.1.d.Ok∧Safe lg (K+1) j.ckpt.1.d (·=C)∧j.d.fuse ≠ -1):=by
 have hr:=h.hrec
 have hlog:=hr.hlog;have hleast:=hr.hleast;have hk:=hr.hk
 have hu:=hr.hchain.used
 have hpl:j.place 0=logAt j.s (usedF 0 fr):=h.place_eq 0
 have hla:=logAt_lt j.s (usedF 0 fr) (by omega)
 have hns:j.nextSlot=nextS j.s fr:=by
  unfold JL.nextSlot nextS
  rw[h.hnext,h.hused,Nat.mod_eq_of_lt (by have:=h.he;omega)]
 have hw1:∀w∈[(j.place 0,noughtsL)],w.1<j.d.l.length∧w.2.length=256:=by
  intro w hw;rw[List.mem_singleton] at hw;subst hw
  exact⟨by show j.place 0<_;rw[hpl];omega,noughts_len⟩
 have hall1:∀w∈[(j.place 0,noughtsL)],(w.1<j.d.l.length∧w.2.length=256)∧Allowed j.s fr w:=fun w hw=>⟨hw1 w hw,by
  rw[List.mem_singleton] at hw;subst hw
  exact .inr ⟨usedF 0 fr,Nat.le_refl _,hu,hpl,fun _=>rfl⟩⟩
 unfold JL.ckpt
 rcases DevL.lays_run _ j.d h.live hw1 with ⟨a,b,c,e⟩|⟨a,b,c,k,e⟩
 ·have a':j.ckpt1.2=0:=a
  rw[if_neg (by rw[a'];simp)]
  have hok1:j.ckpt1.1.Ok:=DevL.lays_ok h.ok _
  have hb:j.ckpt1.1.dead=false:=b
  have hl:j.ckpt1.1.l=layP j.d.l (j.d.p++[(j.place 0,noughtsL)]):=c
  have hp:j.ckpt1.1.p=[]:=e
  have hlen:j.ckpt1.1.l.length=j.d.l.length:=by rw[hl,layP_length]
  have hpq:∀w∈j.d.p++[(j.place 0,noughtsL)],w.1<j.d.l.length∧w.2.length=256:=fun w hw=>by
   rcases List.mem_append.1 hw with hw|hw
   ·exact h.ok.p w hw
   ·exact hw1 w hw
  have hrec1:RecS j.ckpt1.1.l j.s j.k fr C:=by
   rw[hl]
   refine hr.img hpq (fun w hw=>?_) (lay_img _ _ h.ok.l hpq)
   rcases List.mem_append.1 hw with hw|hw
   ·exact h.allowed w hw
   ·exact(hall1 w hw).2
  have hhome:∀i,2+j.s.log≤i→i<j.ckpt1.1.l.length→at' j.ckpt1.1.l i=C i:=fun i h1 h2=>by
   rw[hlen] at h2
   rw[hl,layP_at _ _ _ h2,lastP_snoc,if_neg (by show j.place 0≠i;rw[hpl];omega)]
   exact h.get i (by rw[←h.hlog];exact h1) h2
  have hend:at' j.ckpt1.1.l (logAt j.s (usedF 0 fr))=noughtsL:=by
   rw[hl,layP_at _ _ _ (by omega),lastP_snoc,if_pos hpl]
  have hw2:∀w∈[(1-j.k,slotT j.nextSlot)],w.1<j.ckpt1.1.l.length∧w.2.length=256:=by
   intro w hw;rw[List.mem_singleton] at hw;subst hw
   exact⟨by show 1-j.k<_;rw[hlen];omega,slotT_length _⟩
  have hsw:=fun c=>hrec1.slotW hhome (by have:=h.he;omega) c
  rw[←hns] at hsw
  rcases DevL.lays_run _ j.ckpt1.1 hb hw2 with ⟨a2,b2,c2,e2⟩|⟨a2,b2,c2,k2,e2⟩
  ·left
   have a2':j.ckpt2.2=0:=a2
   rw[if_neg (by rw[a2'];simp)]
   have hl2:j.ckpt2.1.l=tornW j.ckpt1.1.l (1-j.k,slotT j.nextSlot) 256:=by
    have:j.ckpt2.1.l=layP j.ckpt1.1.l (j.ckpt1.1.p++[(1-j.k,slotT j.nextSlot)]):=c2
    rw[this,hp,List.nil_append,layP_one _ _ (hw2 _ (List.mem_singleton.2 rfl)).1 hok1.l (hw2 _ (List.mem_singleton.2 rfl)).2]
   have hp2:j.ckpt2.1.p=[]:=e2
   have hg2:∀i,at' j.ckpt2.1.l i=if 1-j.k=i then slotT j.nextSlot else at' j.ckpt1.1.l i:=fun i=>by
    rw[hl2,tornW_get _ _ _ _ (hw2 _ (List.mem_singleton.2 rfl)).1]
    by_cases hi:1-j.k=i
    ·subst hi
     rw[if_pos rfl,if_pos rfl,List.take_of_length_le (by rw[slotT_length];exact Nat.le_refl _),List.drop_of_length_le (by rw[DevL.getD_mem_length hok1.l (by rw[hlen];omega)];exact Nat.le_refl _),List.append_nil]
    ·rw[if_neg hi,if_neg hi]
   have hrec2:RecS j.ckpt2.1.l j.nextSlot (1-j.k) [] C:=by
    rcases hsw 256 with hb1|hb1
    ·exfalso
     obtain⟨_,_,_,_,hne⟩:=hb1.hother
     rw[←hl2,hg2,if_pos rfl,hns] at hne
     exact hne rfl
    ·rw[hl2];exact hb1.1
   have hlen2:j.ckpt2.1.l.length=j.d.l.length:=by rw[hl2,tornW_length,hlen]
   have hg:∀i,2+lg≤i→i<j.ckpt2.1.l.length→j.ckpt2.1.get i=C i:=fun i h1 h2=>by
    unfold DevL.get
    rw[hp2]
    show at' j.ckpt2.1.l i=C i
    have:=h.hlog
    rw[hg2,if_neg (by omega)]
    exact hhome i (by omega) (by omega)
   have hse:j.nextSlot.e=j.s.e+1:=by rw[hns];rfl
   refine⟨rfl,⟨⟨DevL.lays_ok hok1 _,b2,hrec2,?_,by show j.nextSlot.e≤_;rw[hse];have:=h.he;omega,?_,by show j.next≤_;have:=h.hnextK;omega,rfl,fun w hw=>by rw[show(JL.d _:DevL).p=[] from hp2] at hw;simp at hw,hg⟩,?_,?_,by rw[show(JL.d _:DevL).p=[] from hp2];simp⟩,hp2,?_⟩
   ·show j.nextSlot.log=lg
    rw[hns];exact h.hlog
   ·show j.next=j.nextSlot.s+0
    rfl
   ·show OldX (at' j.ckpt2.1.l (1-(1-j.k))) j.nextSlot
    rw[hg2,if_neg (by omega),show 1-(1-j.k)=j.k by omega,hrec1.hslot]
    exact .inr ⟨j.s,hrec1.ok.1,rfl,by rw[hse];omega⟩
   ·show at' j.ckpt2.1.l (logAt j.nextSlot 0)=noughtsL
    have e:logAt j.nextSlot 0=logAt j.s (usedF 0 fr):=by
     rw[hns]
     show 2+((j.s.place+usedF 0 fr)%j.s.log+0)%j.s.log=2+(j.s.place+usedF 0 fr)%j.s.log
     rw[Nat.add_zero,Nat.mod_mod]
    rw[e,hg2,if_neg (by omega)];exact hend
   ·intro hf
    have h1:=(DevL.lays_free _ j.d h.live hf hw1).2
    exact(DevL.lays_free _ j.ckpt1.1 hb h1 hw2).2
  ·right
   have a2':j.ckpt2.2=4:=a2
   rw[if_pos (by rw[a2'];decide)]
   refine⟨a2',b2,DevL.lays_ok hok1 _,?_,?_⟩
   ·intro l' hi
    have hl2:j.ckpt2.1.l=j.ckpt1.1.l:=c2
    have hp2:j.ckpt2.1.p=[(1-j.k,slotT j.nextSlot)].take k2:=by
     have:j.ckpt2.1.p=j.ckpt1.1.p++[(1-j.k,slotT j.nextSlot)].take k2:=e2
     rw[this,hp,List.nil_append]
    have hi':Img j.ckpt1.1.l ([(1-j.k,slotT j.nextSlot)].take k2) l':=by rw[←hl2,←hp2];exact hi
    have hnK:=h.hnextK;have hn:=h.hnext;have heK:=h.he
    rcases img_take_one hi' with rfl|⟨c,rfl⟩
    ·exact⟨C,rfl,j.s,j.k,fr,hrec1,h.hlog,by omega,by omega⟩
    ·rcases hsw c with hb1|hb1
     ·exact⟨C,rfl,j.s,j.k,fr,hb1,h.hlog,by omega,by omega⟩
     ·refine⟨C,rfl,_,_,_,hb1.1,h.hlog,?_,?_⟩
      ·rw[hns];show j.s.e+1≤_;omega
      ·rw[hns];show j.s.s+fr.length+0≤_;omega
   ·intro hf
    have h1:=(DevL.lays_free _ j.d h.live hf hw1).2
    have h2:=(DevL.lays_free _ j.ckpt1.1 hb h1 hw2).1
    have:j.ckpt2.2=0:=h2
    rw[this] at a2';exact absurd a2' (by decide)
 ·right
  have a':j.ckpt1.2=4:=a
  rw[if_pos (by rw[a'];decide)]
  refine⟨a',b,DevL.lays_ok h.ok _,(h.safe_more _ (fun w hw=>hall1 w (take_mem hw)) j.ckpt1.1 c e).mono (by omega) (fun _ h=>h),fun hf=>?_⟩
  have:=(DevL.lays_free _ j.d h.live hf hw1).1
  have h2:j.ckpt1.2=0:=this
  rw[h2] at a';exact absurd a' (by decide)
end
end Go.Proofs.YthcpkgfieoneeaaGreatDoor
