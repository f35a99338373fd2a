/- Joined texts of one proof: what is needed of Cac, CacM, WCacA, WCacB, WCacC, MapR. -/
import Derived.Test.YthcpkgfieoneeaaGreatDoorJPSto
import Derived.Test.YthcpkgfieoneeaaGreatDoorJPJrn4
import Derived.Test.YthcpkgfieoneeaaGreatDoorJPKit
import Derived.Maps.Range
set_option linter.unusedSimpArgs false
set_option linter.unusedVariables false
set_option linter.unnecessarySimpa false
set_option maxRecDepth 100000
set_option maxHeartbeats 16000000
namespace Go.Proofs.YthcpkgfieoneeaaGreatDoor
section
structure KeptL where
 p:Nat
 data:Bytes
 dirty:Bool
 used:Nat
abbrev KeptLs:=List (Nat×KeptL)
structure CacOk (n most clock:Nat) (tx:List WrL) (g:Nat→Bytes) (m:KeptLs):Prop where
 keys:(m.map (·.1)).Nodup
 ptrs:(m.map (·.2.p)).Nodup
 cap:64≤most∧most≤1024
 len:m.length≤most
 data:∀x∈m,x.2.data=lastP tx x.1 (g x.1)
 dirty:∀x∈m,x.2.dirty=true↔∃w∈tx,w.1=x.1
 all:∀w∈tx,∃x∈m,x.1=w.1
 used:∀x∈m,x.2.used≤clock
 range:∀x∈m,63≤x.1∧x.1<n
 rise:Rise tx
 short:tx.length≤48
theorem putI_mem{α:Type}{k:Nat}{v:α}{m:List (Nat×α)}{x:Nat×α}(h:x∈putI k v m):x=(k,v)∨(x∈m∧(x.1≠k∨getI k m=none∨True)):=by
 induction m with
 | nil=>left;simpa[putI] using h
 | cons y m ih =>
  unfold putI at h
  split at h
  ·rcases List.mem_cons.1 h with h|h
   ·exact .inl h
   ·exact .inr ⟨List.mem_cons_of_mem _ h,.inr (.inr trivial)⟩
  ·rcases List.mem_cons.1 h with h|h
   ·subst h;exact .inr ⟨List.mem_cons_self ..,.inr (.inr trivial)⟩
   ·rcases ih h with h|⟨h,_⟩
    ·exact .inl h
    ·exact .inr ⟨List.mem_cons_of_mem _ h,.inr (.inr trivial)⟩
theorem putI_mem'{α:Type}{k:Nat}{v:α}{m:List (Nat×α)}(hn:(m.map (·.1)).Nodup){x:Nat×α}:x∈putI k v m↔x=(k,v)∨(x∈m∧x.1≠k):=by
 induction m with
 | nil=>simp[putI]
 | cons y m ih =>
  simp only[List.map_cons,List.nodup_cons] at hn
  unfold putI
  by_cases hy:y.1=k
  ·rw[if_pos hy]
   constructor
   ·intro h
    rcases List.mem_cons.1 h with h|h
    ·exact .inl h
    ·refine .inr ⟨List.mem_cons_of_mem _ h,fun e=>hn.1 ?_⟩
     exact List.mem_map.2 ⟨x,h,by rw[e,hy]⟩
   ·rintro(h|⟨h,h2⟩)
    ·exact List.mem_cons.2 (.inl h)
    ·rcases List.mem_cons.1 h with h|h
     ·subst h;exact absurd hy h2
     ·exact List.mem_cons_of_mem _ h
  ·rw[if_neg hy]
   constructor
   ·intro h
    rcases List.mem_cons.1 h with h|h
    ·subst h;exact .inr ⟨List.mem_cons_self ..,hy⟩
    ·rcases (ih hn.2).1 h with h|⟨h,h2⟩
     ·exact .inl h
     ·exact .inr ⟨List.mem_cons_of_mem _ h,h2⟩
   ·rintro(h|⟨h,h2⟩)
    ·exact List.mem_cons_of_mem _ ((ih hn.2).2 (.inl h))
    ·rcases List.mem_cons.1 h with h|h
     ·subst h;exact List.mem_cons_self ..
     ·exact List.mem_cons_of_mem _ ((ih hn.2).2 (.inr ⟨h,h2⟩))
theorem putI_nodup{α:Type}(k:Nat)(v:α)(m:List (Nat×α))(h:(m.map (·.1)).Nodup):((putI k v m).map (·.1)).Nodup:=by
 induction m with
 | nil=>simp[putI]
 | cons y m ih =>
  simp only[List.map_cons,List.nodup_cons] at h
  unfold putI
  by_cases hy:y.1=k
  ·rw[if_pos hy]
   simp only[List.map_cons,List.nodup_cons]
   exact⟨by rw[←hy];exact h.1,h.2⟩
  ·rw[if_neg hy]
   simp only[List.map_cons,List.nodup_cons]
   refine⟨fun hc=>?_,ih h.2⟩
   rcases (putI_keys k v m y.1).1 hc with hc|hc
   ·exact hy hc
   ·exact h.1 hc
theorem putI_ptrs{k:Nat}{v u:KeptL}{m:KeptLs}(hk:(m.map (·.1)).Nodup)(h:(m.map (·.2.p)).Nodup)(hg:getI k m=some u)(hp:v.p=u.p):((putI k v m).map (·.2.p))=m.map (·.2.p):=by
 induction m with
 | nil=>simp[getI] at hg
 | cons y m ih =>
  simp only[List.map_cons,List.nodup_cons] at hk h
  unfold putI
  unfold getI at hg
  by_cases hy:y.1=k
  ·rw[if_pos hy] at hg ⊢
   injection hg with hg
   subst hg
   simp[hp]
  ·rw[if_neg hy] at hg ⊢
   simp only[List.map_cons,ih hk.2 h.2 hg]
theorem putI_none{α:Type}{k:Nat}{v:α}{m:List (Nat×α)}(hg:getI k m=none):putI k v m=m++[(k,v)]:=by
 induction m with
 | nil=>rfl
 | cons y m ih =>
  unfold getI at hg
  unfold putI
  by_cases hy:y.1=k
  ·rw[if_pos hy] at hg;cases hg
  ·rw[if_neg hy] at hg ⊢
   rw[ih hg];rfl
theorem lastP_with(tx:List WrL)(h:Rise tx)(i:Nat)(s t:Bytes)(hw:(i,t)∈tx):lastP tx i s=t:=by
 refine lastP_only tx (i,t) s hw (fun x hx hxi=>?_)
 have hp:=h
 clear h
 induction tx with
 | nil=>simp at hw
 | cons y l ih =>
  have hp':=List.pairwise_cons.1 hp
  rcases List.mem_cons.1 hx with ex|hx<;>rcases List.mem_cons.1 hw with ew|hw
  ·rw[ex,←ew]
  ·have:=hp'.1 _ hw;rw[←ex] at this;simp only at this hxi;omega
  ·have:=hp'.1 _ hx;rw[←ew] at this;simp only at this hxi;omega
  ·exact ih hw hx hp'.2
namespace CacOk
variable {n most clock:Nat} {tx:List WrL} {g:Nat→Bytes} {m:KeptLs}
theorem hit(h:CacOk n most clock tx g m){i:Nat}{k:KeptL}(hg:getI i m=some k):k.data=lastP tx i (g i):=h.data _ (getI_mem hg)
theorem miss(h:CacOk n most clock tx g m){i:Nat}(hg:getI i m=none):∀w∈tx,w.1≠i:=fun w hw e=>by
 obtain⟨x,hx,he⟩:=h.all w hw
 exact getI_none.1 hg x hx (by rw[he,e])
theorem use(h:CacOk n most clock tx g m){i:Nat}{k:KeptL}(hg:getI i m=some k):CacOk n most (clock+1) tx g (putI i { k with used:=clock+1 } m):=by
 have hm:=getI_mem hg
 have hmem:=fun x=>putI_mem' (k:=i) (v:={ k with used:=clock+1 }) h.keys (x:=x)
 have hpt:=putI_ptrs (v:=({ k with used:=clock+1 }:KeptL)) h.keys h.ptrs hg rfl
 refine⟨putI_nodup _ _ _ h.keys,by rw[hpt];exact h.ptrs,h.cap,by rw[putI_length,hg];exact h.len,?_,?_,?_,?_,?_,h.rise,h.short⟩
 ·intro x hx
  rcases (hmem x).1 hx with rfl|⟨hx,_⟩
  ·exact h.data (i,k) hm
  ·exact h.data x hx
 ·intro x hx
  rcases (hmem x).1 hx with rfl|⟨hx,_⟩
  ·exact h.dirty (i,k) hm
  ·exact h.dirty x hx
 ·intro w hw
  obtain⟨x,hx,he⟩:=h.all w hw
  by_cases hxi:x.1=i
  ·exact⟨_,(hmem _).2 (.inl rfl),by rw[←he,hxi]⟩
  ·exact⟨x,(hmem x).2 (.inr ⟨hx,hxi⟩),he⟩
 ·intro x hx
  rcases (hmem x).1 hx with rfl|⟨hx,_⟩
  ·exact Nat.le_refl _
  ·exact Nat.le_succ_of_le (h.used x hx)
 ·intro x hx
  rcases (hmem x).1 hx with rfl|⟨hx,_⟩
  ·exact h.range (i,k) hm
  ·exact h.range x hx
theorem drop(h:CacOk n most clock tx g m){i:Nat}{k:KeptL}(hg:getI i m=some k)(hd:k.dirty=false):CacOk n most clock tx g (delI i m)∧(delI i m).length+1=m.length:=by
 have hm:=getI_mem hg
 have e:=delI_eq i m h.keys
 have hsub:(delI i m).Sublist m:=by rw[e];exact List.filter_sublist
 have hmem:∀x,x∈delI i m↔x∈m∧x.1≠i:=fun x=>by rw[e];simp
 have hno:¬∃w∈tx,w.1=i:=fun hc=>by
  have:=(h.dirty _ hm).2 hc
  simp only[hd] at this;exact absurd this (by decide)
 have hlen:(delI i m).length+1=m.length:=by
  clear hsub hmem hno e
  have hk:=h.keys
  clear h hm
  induction m with
  | nil=>simp[getI] at hg
  | cons y m ih =>
   unfold getI at hg
   unfold delI
   by_cases hy:y.1=i
   ·rw[if_pos hy];rfl
   ·rw[if_neg hy] at hg ⊢
    rw[List.length_cons,List.length_cons,ih hg (List.nodup_cons.1 hk).2]
 refine⟨⟨(hsub.map _).nodup h.keys,(hsub.map _).nodup h.ptrs,h.cap,by have:=h.len;omega,fun x hx=>h.data x ((hmem x).1 hx).1,fun x hx=>h.dirty x ((hmem x).1 hx).1,fun w hw=>?_,fun x hx=>h.used x ((hmem x).1 hx).1,fun x hx=>h.range x ((hmem x).1 hx).1,h.rise,h.short⟩,hlen⟩
 obtain⟨x,hx,he⟩:=h.all w hw
 exact⟨x,(hmem x).2 ⟨hx,fun hc=>hno ⟨w,hw,by rw[←he,hc]⟩⟩,he⟩
theorem clean_one(h:CacOk n most clock tx g m)(hl:most≤m.length):∃x∈m,x.2.dirty=false:=by
 refine Decidable.byContradiction (fun hc=>?_)
 have hall:∀x∈m,x.2.dirty=true:=fun x hx=>by
  cases hd:x.2.dirty with
  | true=>rfl
  | false=>exact absurd ⟨x,hx,hd⟩ hc
 have hsub:m.map (·.1) ⊆ tx.map (·.1):=fun i hi=>by
  obtain⟨x,hx,rfl⟩:=List.mem_map.1 hi
  obtain⟨w,hw,he⟩:=(h.dirty x hx).1 (hall x hx)
  exact List.mem_map.2 ⟨w,hw,he⟩
 have:=List.Nodup.length_le_of_subset h.keys hsub
 simp only[List.length_map] at this
 have:=h.short;have:=h.cap.1
 omega
theorem lay(h:CacOk n most clock tx g m){i:Nat}(hg:getI i m=none)(hl:m.length<most)(hi:63≤i∧i<n)(k:KeptL)(hp:∀x∈m,x.2.p≠k.p)(hd:k.data=g i)(hc:k.dirty=false)(hu:k.used≤clock):CacOk n most clock tx g (putI i k m):=by
 have hmiss:=h.miss hg
 rw[putI_none hg]
 have hnot:=getI_none.1 hg
 refine⟨?_,?_,h.cap,by simp;omega,?_,?_,?_,?_,?_,h.rise,h.short⟩
 ·rw[List.map_append]
  refine List.nodup_append.2 ⟨h.keys,by simp,fun a ha b hb=>?_⟩
  obtain⟨x,hx,rfl⟩:=List.mem_map.1 ha
  simp only[List.map_cons,List.map_nil,List.mem_singleton] at hb
  subst hb;exact hnot x hx
 ·rw[List.map_append]
  refine List.nodup_append.2 ⟨h.ptrs,by simp,fun a ha b hb=>?_⟩
  obtain⟨x,hx,rfl⟩:=List.mem_map.1 ha
  simp only[List.map_cons,List.map_nil,List.mem_singleton] at hb
  subst hb;exact hp x hx
 ·intro x hx
  rcases List.mem_append.1 hx with hx|hx
  ·exact h.data x hx
  ·rw[List.mem_singleton] at hx;subst hx
   simp only[hd]
   rw[lastP_none _ _ _ hmiss]
 ·intro x hx
  rcases List.mem_append.1 hx with hx|hx
  ·exact h.dirty x hx
  ·rw[List.mem_singleton] at hx;subst hx
   simp only[hc]
   exact⟨fun e=>absurd e (by decide),fun ⟨w,hw,e⟩=>absurd e (hmiss w hw)⟩
 ·intro w hw
  obtain⟨x,hx,he⟩:=h.all w hw
  exact⟨x,List.mem_append_left _ hx,he⟩
 ·intro x hx
  rcases List.mem_append.1 hx with hx|hx
  ·exact h.used x hx
  ·rw[List.mem_singleton] at hx;subst hx;exact hu
 ·intro x hx
  rcases List.mem_append.1 hx with hx|hx
  ·exact h.range x hx
  ·rw[List.mem_singleton] at hx;subst hx;exact hi
theorem with_mem'(l:List WrL)(h:Rise l)(w x:WrL):x∈withL l w↔x=w∨(x∈l∧x.1≠w.1):=by
 induction l with
 | nil=>simp[withL]
 | cons y l ih =>
  have hp:=List.pairwise_cons.1 h
  unfold withL
  split
  ·rename_i hlt
   rw[List.mem_cons,ih hp.2,List.mem_cons]
   constructor
   ·rintro(rfl|h|h)
    ·exact .inr ⟨.inl rfl,by omega⟩
    ·exact .inl h
    ·exact .inr ⟨.inr h.1,h.2⟩
   ·rintro(h|⟨h|h,h2⟩)
    ·exact .inr (.inl h)
    ·exact .inl h
    ·exact .inr (.inr ⟨h,h2⟩)
  ·split
   ·rename_i hn he
    rw[List.mem_cons,List.mem_cons]
    constructor
    ·rintro(h|h)
     ·exact .inl h
     ·exact .inr ⟨.inr h,by have:=hp.1 _ h;omega⟩
    ·rintro(h|⟨h|h,h2⟩)
     ·exact .inl h
     ·subst h;exact absurd he h2
     ·exact .inr h
   ·rename_i hn he
    rw[List.mem_cons,List.mem_cons]
    constructor
    ·rintro(h|h|h)
     ·exact .inl h
     ·subst h;exact .inr ⟨.inl rfl,by omega⟩
     ·exact .inr ⟨.inr h,by have:=hp.1 _ h;omega⟩
    ·rintro(h|⟨h,_⟩)
     ·exact .inl h
     ·exact .inr h
theorem putOld(h:CacOk n most clock tx g m){i:Nat}{k:KeptL}(hg:getI i m=some k)(s:Bytes)(hs:(withL tx (i,s)).length≤48):CacOk n most (clock+1) (withL tx (i,s)) g (putI i ⟨k.p,s,true,clock+1⟩ m):=by
 have hm:=getI_mem hg
 have hmem:=fun x=>putI_mem' (k:=i) (v:=⟨k.p,s,true,clock+1⟩) h.keys (x:=x)
 have hpt:=putI_ptrs (v:=(⟨k.p,s,true,clock+1⟩:KeptL)) h.keys h.ptrs hg rfl
 have htx:=with_mem' tx h.rise (i,s)
 have hl:=fun j t=>with_lastP tx (i,s) h.rise j t
 refine⟨putI_nodup _ _ _ h.keys,by rw[hpt];exact h.ptrs,h.cap,by rw[putI_length,hg];exact h.len,?_,?_,?_,?_,?_,with_rise _ _ h.rise,hs⟩
 ·intro x hx
  rw[hl]
  rcases (hmem x).1 hx with rfl|⟨hx,hne⟩
  ·rw[if_pos rfl]
  ·rw[if_neg (fun e=>hne e.symm)];exact h.data x hx
 ·intro x hx
  rcases (hmem x).1 hx with rfl|⟨hx,hne⟩
  ·exact⟨fun _=>⟨(i,s),(htx _).2 (.inl rfl),rfl⟩,fun _=>rfl⟩
  ·rw[h.dirty x hx]
   constructor
   ·rintro⟨w,hw,he⟩;exact⟨w,(htx w).2 (.inr ⟨hw,by rw[he];exact hne⟩),he⟩
   ·rintro⟨w,hw,he⟩
    rcases (htx w).1 hw with rfl|⟨hw,_⟩
    ·exact absurd he.symm hne
    ·exact⟨w,hw,he⟩
 ·intro w hw
  rcases (htx w).1 hw with rfl|⟨hw,hne⟩
  ·exact⟨_,(hmem _).2 (.inl rfl),rfl⟩
  ·obtain⟨x,hx,he⟩:=h.all w hw
   exact⟨x,(hmem x).2 (.inr ⟨hx,by rw[he];exact hne⟩),he⟩
 ·intro x hx
  rcases (hmem x).1 hx with rfl|⟨hx,_⟩
  ·exact Nat.le_refl _
  ·exact Nat.le_succ_of_le (h.used x hx)
 ·intro x hx
  rcases (hmem x).1 hx with rfl|⟨hx,_⟩
  ·exact h.range (i,k) hm
  ·exact h.range x hx
theorem putNew(h:CacOk n most clock tx g m){i:Nat}(hg:getI i m=none)(hl:m.length<most)(hi:63≤i∧i<n)(p:Nat)(hp:∀x∈m,x.2.p≠p)(s:Bytes)(hs:(withL tx (i,s)).length≤48):CacOk n most (clock+1) (withL tx (i,s)) g (putI i ⟨p,s,true,clock+1⟩ m):=by
 have h1:=h.lay hg hl hi ⟨p,g i,false,clock⟩ hp rfl rfl (Nat.le_refl _)
 have hg2:getI i (putI i (⟨p,g i,false,clock⟩:KeptL) m)=some ⟨p,g i,false,clock⟩:=by rw[getI_putI,if_pos rfl]
 have h2:=h1.putOld hg2 s hs
 have e:putI i (⟨p,s,true,clock+1⟩:KeptL) (putI i ⟨p,g i,false,clock⟩ m)=putI i ⟨p,s,true,clock+1⟩ m:=by
  rw[putI_none hg,putI_none hg]
  have hnot:=getI_none.1 hg
  clear h h1 h2 hg2 hl hp hg
  induction m with
  | nil=>simp[putI]
  | cons y m ih =>
   rw[List.cons_append,putI,if_neg (hnot y (List.mem_cons_self ..)),ih (fun x hx=>hnot x (List.mem_cons_of_mem _ hx))];rfl
 rw[e] at h2
 exact h2
theorem cleaned(h:CacOk n most clock tx g m)(g':Nat→Bytes)(hg:∀i,63≤i∧i<n→g' i=lastP tx i (g i)):CacOk n most clock [] g' (m.map fun x=>(x.1,{ x.2 with dirty:=false })):=by
 refine⟨by simpa[List.map_map,Function.comp_def] using h.keys,by simpa[List.map_map,Function.comp_def] using h.ptrs,h.cap,by simpa using h.len,?_,?_,by simp,?_,?_,by simp[Rise],by simp⟩
 ·intro x hx
  obtain⟨y,hy,rfl⟩:=List.mem_map.1 hx
  show y.2.data=g' y.1
  rw[hg _ (h.range y hy)];exact h.data y hy
 ·intro x hx
  obtain⟨y,hy,rfl⟩:=List.mem_map.1 hx
  simp
 ·intro x hx
  obtain⟨y,hy,rfl⟩:=List.mem_map.1 hx
  exact h.used y hy
 ·intro x hx
  obtain⟨y,hy,rfl⟩:=List.mem_map.1 hx
  exact h.range y hy
theorem dropped(h:CacOk n most clock tx g m):CacOk n most clock [] g (m.filter fun x => !x.2.dirty):=by
 have hsub:(m.filter fun x => !x.2.dirty).Sublist m:=List.filter_sublist
 have hmem:∀x,x∈m.filter (fun x => !x.2.dirty)→x∈m∧x.2.dirty=false:=fun x hx=>by
  have:=List.mem_filter.1 hx
  simpa using this
 refine⟨(hsub.map _).nodup h.keys,(hsub.map _).nodup h.ptrs,h.cap,Nat.le_trans hsub.length_le h.len,?_,?_,by simp,?_,?_,by simp[Rise],by simp⟩
 ·intro x hx
  obtain⟨h1,h2⟩:=hmem x hx
  have:=h.data x h1
  rw[this,lastP_none _ _ _ (fun w hw e=>?_)];rfl
  have:=(h.dirty x h1).2 ⟨w,hw,e⟩
  rw[h2] at this;exact absurd this (by decide)
 ·intro x hx
  obtain⟨h1,h2⟩:=hmem x hx
  simp[h2]
 ·intro x hx;exact h.used x (hmem x hx).1
 ·intro x hx;exact h.range x (hmem x hx).1
theorem ext(h:CacOk n most clock tx g m){g':Nat→Bytes}(hg:∀i,63≤i∧i<n→g' i=g i):CacOk n most clock tx g' m :=
 ⟨h.keys,h.ptrs,h.cap,h.len,fun x hx=>by rw[hg _ (h.range x hx)];exact h.data x hx,h.dirty,h.all,h.used,h.range,h.rise,h.short⟩
theorem empty(n most:Nat)(g:Nat→Bytes)(h:64≤most∧most≤1024):CacOk n most 0 [] g [] :=
 ⟨by simp,by simp,h,by simp,by simp,by simp,by simp,by simp,by simp,by simp[Rise],by simp⟩
theorem dirties(h:CacOk n most clock tx g m)(l:List Nat)(hl:l.Perm (m.map (·.1)))(hs:l.Pairwise (·≤·)):(l.filterMap fun i=>(getI i m).bind fun k=>if k.dirty then some (i,k.data) else none)=tx:=by
 have hnd:l.Nodup:=hl.nodup_iff.2 h.keys
 have hlt:l.Pairwise (·<·):=by
  refine(List.pairwise_and_iff.2 ⟨hs,hnd⟩).imp (fun ⟨a,b⟩=>by omega)
 have hmem:∀x:WrL,x∈(l.filterMap fun i=>(getI i m).bind fun k=>if k.dirty then some (i,k.data) else none)↔x∈tx:=fun x=>by
  rw[List.mem_filterMap]
  constructor
  ·rintro⟨i,hi,hx⟩
   cases hg:getI i m with
   | none=>rw[hg] at hx;cases hx
   | some k =>
    rw[hg] at hx
    simp only[Option.bind_some] at hx
    split at hx
    ·rename_i hd
     injection hx with hx
     obtain⟨w,hw,he⟩:=(h.dirty _ (getI_mem hg)).1 hd
     have hdat:=h.hit hg
     have hw':(i,w.2)∈tx:=by simp only at he;rw[←he];exact hw
     rw[lastP_with tx h.rise i _ w.2 hw'] at hdat
     rw[←hx,hdat];exact hw'
    ·cases hx
  ·intro hx
   obtain⟨y,hy,he⟩:=h.all x hx
   have hg:=getI_of_mem h.keys (k:=y.1) (v:=y.2) hy
   refine⟨y.1,hl.mem_iff.2 (List.mem_map.2 ⟨y,hy,rfl⟩),?_⟩
   rw[hg]
   simp only[Option.bind_some]
   rw[if_pos ((h.dirty y hy).2 ⟨x,hx,he.symm⟩),h.data y hy]
   have:(y.1,x.2)∈tx:=by rw[he];exact hx
   rw[lastP_with tx h.rise y.1 _ x.2 this,he]
 have hr:Rise (l.filterMap fun i=>(getI i m).bind fun k=>if k.dirty then some (i,k.data) else none):=by
  refine List.Pairwise.filterMap _ (fun a b hab x hx y hy=>?_) hlt
  have hfst:∀(i:Nat) (x:WrL),(getI i m).bind (fun k=>if k.dirty then some (i,k.data) else none)=some x→x.1=i:=fun i x hx=>by
   cases hg:getI i m with
   | none=>rw[hg] at hx;cases hx
   | some k =>
    rw[hg] at hx
    simp only[Option.bind_some] at hx
    split at hx
    ·injection hx with hx;rw[←hx]
    ·cases hx
  rw[hfst a x hx,hfst b y hy];exact hab
 refine List.Perm.eq_of_pairwise (le:=fun (x y:WrL)=>x.1<y.1) (fun a b _ _ h1 h2=>by omega) hr h.rise ?_
 refine(List.perm_ext_iff_of_nodup ?_ ?_).2 hmem
 ·exact hr.imp (fun h e=>by rw[e] at h;omega)
 ·exact h.rise.imp (fun h e=>by rw[e] at h;omega)
end CacOk
end
section
open Go.RowKit
def kcells(k:KeptL):Array Value:=#[strV k.data,.bool k.dirty,.int .i64 0,.int .i64 (k.used:Nat)]
def ccells(p most clock:Nat)(ms:Int)(mb:Nat):Array Value:=#[.iface 82 (ptrV p),.int .i64 (most:Nat),.int .i64 (clock:Nat),.int .i64 ms,.map (some mb)]
abbrev mapOf(m:KeptLs):List (Nat×Value):=m.map fun x=>(x.1,ptrV x.2.p)
structure CacG (w:World) (F:Nat→Prop) (cb p most clock:Nat) (ms:Int) (mb:Nat) (m:KeptLs):Prop where
 box:Blk w cb 145 (ccells p most clock ms mb)
 fb:F cb
 map:MapI w mb (mapOf m)
 fm:F mb
 kept:∀x∈m,Blk w x.2.p 147 (kcells x.2)∧F x.2.p
 lt:∀k,F k→k<w.heap.size
theorem blk_not_map{w:World}{a b:Nat}{t:TypeId}{cs:Array Value}{m:List (Nat×Value)}(h:Blk w a t cs)(k:MapI w b m):a≠b:=by
 rintro rfl
 obtain⟨es,clock,hb,_⟩:=k
 unfold Blk at h
 rw[h] at hb
 cases hb
namespace CacG
variable {w w':World} {F G:Nat→Prop} {cb p most clock:Nat} {ms:Int} {mb:Nat} {m:KeptLs}
theorem mono(h:CacG w F cb p most clock ms mb m)(k:∀i,F i→G i)(hl:∀i,G i→i<w.heap.size):CacG w G cb p most clock ms mb m :=
 ⟨h.box,k _ h.fb,h.map,k _ h.fm,fun x hx=>⟨(h.kept x hx).1,k _ (h.kept x hx).2⟩,hl⟩
theorem beside(h:CacG w F cb p most clock ms mb m)(t:Turn G w w')(hd:∀k,F k→¬G k):CacG w' F cb p most clock ms mb m :=
 ⟨t.blk h.box (hd _ h.fb),h.fb,h.map.same (t.block _ h.map.lt (hd _ h.fm)),h.fm,fun x hx=>⟨t.blk (h.kept x hx).1 (hd _ (h.kept x hx).2),(h.kept x hx).2⟩,fun k hk=>Nat.lt_of_lt_of_le (h.lt k hk) t.size⟩
theorem keep(h:CacG w F cb p most clock ms mb m)(q:Q w w'):CacG w' F cb p most clock ms mb m:=h.beside (Turn.of_q (own:=fun _=>False) q) (fun _ _=>id)
theorem apart(h:CacG w F cb p most clock ms mb m):cb≠mb∧∀x∈m,x.2.p≠cb∧x.2.p≠mb :=
 ⟨blk_not_map h.box h.map,fun x hx=>⟨blk_ne (h.kept x hx).1 h.box (by decide),blk_not_map (h.kept x hx).1 h.map⟩⟩
theorem turnBox(h:CacG w F cb p most clock ms mb m)(t:Turn (fun k=>k=cb) w w'){clock':Nat}{ms':Int}(hb:Blk w' cb 145 (ccells p most clock' ms' mb)):CacG w' F cb p most clock' ms' mb m :=
 ⟨hb,h.fb,h.map.same (t.block _ h.map.lt (fun e=>h.apart.1 e.symm)),h.fm,fun x hx=>⟨t.blk (h.kept x hx).1 (h.apart.2 x hx).1,(h.kept x hx).2⟩,fun k hk=>Nat.lt_of_lt_of_le (h.lt k hk) t.size⟩
theorem ptr_inj{m:KeptLs}(hp:(m.map (·.2.p)).Nodup){x y:Nat×KeptL}(hx:x∈m)(hy:y∈m)(e:x.2.p=y.2.p):x=y:=by
 induction m with
 | nil=>simp at hx
 | cons z m ih =>
  simp only[List.map_cons,List.nodup_cons] at hp
  rcases List.mem_cons.1 hx with ex|hx<;>rcases List.mem_cons.1 hy with ey|hy
  ·rw[ex,ey]
  ·exact absurd (List.mem_map.2 ⟨y,hy,by rw[←e,ex]⟩) hp.1
  ·exact absurd (List.mem_map.2 ⟨x,hx,by rw[e,ey]⟩) hp.1
  ·exact ih hp.2 hx hy
theorem putI_same{α:Type}{k:Nat}{v:α}{m:List (Nat×α)}(h:getI k m=some v):putI k v m=m:=by
 induction m with
 | nil=>cases h
 | cons y m ih =>
  unfold getI at h
  unfold putI
  by_cases hy:y.1=k
  ·rw[if_pos hy] at h ⊢
   injection h with h
   subst hy h;rfl
  ·rw[if_neg hy] at h ⊢
   rw[ih h]
theorem turnKept(h:CacG w F cb p most clock ms mb m)(hk:(m.map (·.1)).Nodup)(hp:(m.map (·.2.p)).Nodup){i:Nat}{k k':KeptL}(hg:getI i m=some k)(he:k'.p=k.p)(t:Turn (fun x=>x=k.p) w w')(hb:Blk w' k.p 147 (kcells k')):CacG w' F cb p most clock ms mb (putI i k' m):=by
 have hm:=getI_mem hg
 have hap:=h.apart
 have e:mapOf (putI i k' m)=mapOf m:=by
  unfold mapOf
  rw[putI_map (fun k:KeptL=>ptrV k.p),he]
  exact putI_same (by rw[getI_map (fun k:KeptL=>ptrV k.p),hg];rfl)
 refine⟨t.blk h.box (fun e=>(hap.2 _ hm).1 e.symm),h.fb,by rw[e];exact h.map.same (t.block _ h.map.lt (fun e=>(hap.2 _ hm).2 e.symm)),h.fm,fun x hx=>?_,fun k hk=>Nat.lt_of_lt_of_le (h.lt k hk) t.size⟩
 rcases (putI_mem' hk).1 hx with rfl|⟨hx,hne⟩
 ·exact⟨by rw[he];exact hb,by rw[he];exact(h.kept _ hm).2⟩
 ·exact⟨t.blk (h.kept x hx).1 (fun e=>hne (by rw[ptr_inj hp hx hm e])),(h.kept x hx).2⟩
theorem turn_of_map{w w':World}{b:Nat}(hg:w.grownBy w' (some b)):Turn (fun k=>k=b) w w' :=
 ⟨hg.os,hg.tape,hg.output,hg.size,fun k h1 h2=>hg.block k h1 (fun e=>h2 (by cases e;rfl))⟩
theorem laid(h:CacG w F cb p most clock ms mb m){i g:Nat}{k:KeptL}(hg:getI i m=none)(hkp:k.p=g)(hb:Blk w g 147 (kcells k))(hG:∀x,G x↔F x∨x=g)(hm:MapI w' mb (putI i (ptrV g) (mapOf m)))(t:Turn (fun x=>x=mb) w w'):CacG w' G cb p most clock ms mb (putI i k m):=by
 have hap:=h.apart
 have hgm:=blk_not_map hb h.map
 have e:mapOf (putI i k m)=putI i (ptrV g) (mapOf m):=by
  unfold mapOf
  rw[putI_map (fun k:KeptL=>ptrV k.p),hkp]
 refine⟨t.blk h.box hap.1,(hG _).2 (.inl h.fb),by rw[e];exact hm,(hG _).2 (.inl h.fm),fun x hx=>?_,fun x hx=>?_⟩
 ·rw[putI_none hg] at hx
  rcases List.mem_append.1 hx with hx|hx
  ·exact⟨t.blk (h.kept x hx).1 (hap.2 x hx).2,(hG _).2 (.inl (h.kept x hx).2)⟩
  ·rw[List.mem_singleton] at hx;subst hx
   exact⟨by rw[hkp];exact t.blk hb hgm,(hG _).2 (.inr hkp)⟩
 ·rcases (hG x).1 hx with hx|rfl
  ·exact Nat.lt_of_lt_of_le (h.lt x hx) t.size
  ·exact Nat.lt_of_lt_of_le hb.lt t.size
theorem gone(h:CacG w F cb p most clock ms mb m){i:Nat}(hk:(m.map (·.1)).Nodup)(hm:MapI w' mb (delI i (mapOf m)))(t:Turn (fun x=>x=mb) w w'):CacG w' F cb p most clock ms mb (delI i m):=by
 have hap:=h.apart
 have e:mapOf (delI i m)=delI i (mapOf m):=by unfold mapOf;rw[delI_map (fun k:KeptL=>ptrV k.p)]
 have hsub:∀x∈delI i m,x∈m:=fun x hx=>by rw[delI_eq i m hk] at hx;exact(List.mem_filter.1 hx).1
 exact⟨t.blk h.box hap.1,h.fb,by rw[e];exact hm,h.fm,fun x hx=>⟨t.blk (h.kept x (hsub x hx)).1 (hap.2 x (hsub x hx)).2,(h.kept x (hsub x hx)).2⟩,fun x hx=>Nat.lt_of_lt_of_le (h.lt x hx) t.size⟩
theorem look(h:CacG w F cb p most clock ms mb m)(i:Nat):getI i (mapOf m)=(getI i m).map fun k=>ptrV k.p:=getI_map (fun k:KeptL=>ptrV k.p) i m
theorem lookHit(h:CacG w F cb p most clock ms mb m){i:Nat}{k:KeptL}(hg:getI i m=some k):(getI i (mapOf m)).getD (.pointer none)=ptrV k.p:=by rw[h.look,hg];rfl
theorem lookMiss(h:CacG w F cb p most clock ms mb m){i:Nat}(hg:getI i m=none):(getI i (mapOf m)).getD (.pointer none)=.pointer none:=by rw[h.look,hg];rfl
theorem len(h:CacG w F cb p most clock ms mb m):(mapOf m).length=m.length:=List.length_map ..
end CacG
theorem run_mapElem(w:World):(zeroValue 141).run Tryz.prog w=.ok (.pointer none) w:=by kernel_rfl
end
section
open Go.RowKit
theorem CNew_any(w:World)(p most:Nat)(h1:1≤most)(h2:most≤1024):
  Calls Tryz.prog 81 #[.iface 82 (ptrV p),.int .i64 (most:Nat)] w fun e w'=>∃cb,e=.returned (.tuple #[ptrV cb,.int .i64 0])∧CacG w' (fun k=>w.heap.size≤k∧k<w'.heap.size) cb p most 0 0 w.heap.size []∧Q w w':=by
 have e1:¬(most:Int)<1:=by omega
 have e2:¬(1024:Int)<(most:Int):=by omega
 have hmm:=@run_makeMap Tryz.prog
 go_enter Tryz.func81,Tryz.ntmps81
 go_wp2_with fail
 go_ret2
 have hb:Blk ((w.alloc (.map #[] 0)).alloc (.cells (ccells p most 0 0 w.heap.size) 145)) (w.heap.size+1) 145 (ccells p most 0 0 w.heap.size):=by
  have:=Blk.new (w.alloc (.map #[] 0)) 145 (ccells p most 0 0 w.heap.size)
  rwa [World.size_alloc] at this
 exact⟨w.heap.size+1,rfl,⟨hb,⟨by omega,hb.lt⟩,(MapI.made w).same (Q.alloc _ _ |>.block _ (by simp)),⟨Nat.le_refl _,by simp only[World.size_alloc];omega⟩,by simp,fun k hk=>hk.2⟩,(Q.alloc _ _).trans (Q.alloc _ _)⟩
theorem Use_any(w:World)(F:Nat→Prop)(cb p most clock:Nat)(ms:Int)(mb:Nat)(m:KeptLs)(i:Nat)(k:KeptL)(h:CacG w F cb p most clock ms mb m)(hg:getI i m=some k)(hk:(m.map (·.1)).Nodup)(hp:(m.map (·.2.p)).Nodup)(hc:clock≤1000000000000000000):
  Calls Tryz.prog 114 #[ptrV cb,ptrV k.p] w fun e w'=>e=.returned (.tuple #[])∧CacG w' F cb p most (clock+1) ms mb (putI i { k with used:=clock+1 } m)∧Turn F w w'∧w'.heap.size=w.heap.size:=by
 have hm:=getI_mem hg
 have hb:=h.box
 have hkb:=(h.kept _ hm).1
 have hne:k.p≠cb:=(h.apart.2 _ hm).1
 have c2:=hb.cell 2 (.int .i64 (clock:Nat)) rfl
 have f2:=hb.frozen 2
 have hb2:Blk (w.setCell ⟨cb,2,none⟩ (.int .i64 ((clock:Int)+1))) cb 145 (ccells p most (clock+1) ms mb):=hb.set 2 (.int .i64 ((clock:Int)+1))
 have t2:Turn (fun x=>x=cb) w (w.setCell ⟨cb,2,none⟩ (.int .i64 ((clock:Int)+1))):=Turn.setCell (a:=⟨cb,2,none⟩) (Turn.refl (fun x=>x=cb) w) (.inl rfl) _
 have h2:=h.turnBox t2 hb2
 have hkb2:Blk (w.setCell ⟨cb,2,none⟩ (.int .i64 ((clock:Int)+1))) k.p 147 (kcells k):=t2.blk hkb hne
 have d3:=hkb2.cell 3 (.int .i64 (k.used:Nat)) rfl
 have g3:=hkb2.frozen 3
 have hkb3:Blk ((w.setCell ⟨cb,2,none⟩ (.int .i64 ((clock:Int)+1))).setCell ⟨k.p,3,none⟩ (.int .i64 ((clock:Int)+1))) k.p 147 (kcells { k with used:=clock+1 }):=hkb2.set 3 (.int .i64 ((clock:Int)+1))
 have t3:Turn (fun x=>x=k.p) (w.setCell ⟨cb,2,none⟩ (.int .i64 ((clock:Int)+1))) ((w.setCell ⟨cb,2,none⟩ (.int .i64 ((clock:Int)+1))).setCell ⟨k.p,3,none⟩ (.int .i64 ((clock:Int)+1))):=Turn.setCell (a:=⟨k.p,3,none⟩) (Turn.refl (fun x=>x=k.p) _) (.inl rfl) _
 have hend:=h2.turnKept hk hp hg (k':={ k with used:=clock+1 }) rfl t3 hkb3
 have ht:=(t2.mono (fun x hx=>by subst hx;exact h.fb)).trans (t3.mono (own':=F) (fun x hx=>by subst hx;exact(h.kept _ hm).2))
 have hsz:((w.setCell ⟨cb,2,none⟩ (.int .i64 ((clock:Int)+1))).setCell ⟨k.p,3,none⟩ (.int .i64 ((clock:Int)+1))).heap.size=w.heap.size:=by rw[setCell_size,setCell_size]
 have HE:=Lib.hid hend;have HT:=Lib.hid ht;have HS:=Lib.hid hsz
 have b2:=hb2.cell 2 (.int .i64 ((clock:Int)+1)) rfl
 clear hend ht hsz hkb3 t3 h2 t2 hb2 hkb2 h hg hk hp hm hb hkb
 go_enter Tryz.func114,Tryz.ntmps114
 go_wp2
 go_end0
 exact⟨rfl,HE.out,HT.out,HS.out⟩
theorem method_read(n:Nat)(w:World)(p b:Nat)(h:w.cell? ⟨p,0,none⟩=some (ptrV b)):
  (method (n+1) 82 (ptrV p) "Read").run Tryz.prog w=.ok (84,ptrV b) w:=by
 have hx:((Tryz.prog.info? 82).bind (fun i=>i.methods.find? (·.name == "Read"))).map (fun m=>(m.path.toList,m.func))=some ([⟨110,0,true⟩],some (84,true)):=by kernel_rfl
 cases hi:Tryz.prog.info? 82 with
 | none=>rw[hi] at hx;cases hx
 | some i =>
  rw[hi] at hx
  simp only[Option.bind_some] at hx
  cases hf:i.methods.find? (·.name == "Read") with
  | none=>rw[hf] at hx;cases hx
  | some m =>
   rw[hf] at hx
   simp only[Option.map_some,Option.some.injEq,Prod.mk.injEq] at hx
   unfold method
   simp only[Sem.run_bind,run_typeInfo w hi,Result.andThen,hf,hx.1,hx.2,follow,run_underlying (w:=w) Tryz.underlying110]
   have hso:∀W,(sizeOf 37).run Tryz.prog W=.ok 1 W:=fun W=>by kernel_rfl
   simp[Place.get,asAddr,fieldPlace,receiverAt,hso,Result.andThen,run_underlying Tryz.underlying37,add_off,go_sem,h]
theorem CGet_hit(w:World)(F:Nat→Prop)(cb p most clock:Nat)(ms:Int)(mb:Nat)(m:KeptLs)(i:Nat)(k:KeptL)(h:CacG w F cb p most clock ms mb m)(hg:getI i m=some k)(hk:(m.map (·.1)).Nodup)(hp:(m.map (·.2.p)).Nodup)(hc:clock≤1000000000000000000):
  Calls Tryz.prog 70 #[ptrV cb,.int .i64 (i:Nat)] w fun e w'=>e=.returned (.tuple #[strV k.data,.int .i64 0])∧CacG w' F cb p most (clock+1) ms mb (putI i { k with used:=clock+1 } m)∧Turn F w w'∧w'.heap.size=w.heap.size:=by
 have hu:=Use_any w F cb p most clock ms mb m i k h hg hk hp hc
 have c4:=h.box.cell 4 (.map (some mb)) rfl
 have hlk:=h.lookHit hg
 have hmp:=h.map
 have HU:=Lib.hid hu;have HLK:=Lib.hid hlk;have HMP:=Lib.hid hmp;have HH:=Lib.hid h
 clear hu hlk hmp h
 go_enter Tryz.func70,Tryz.ntmps70
 go_wp2_with (at_lookup;refine wpList_lookup_int _ (by rfl) _ _ 140 false (by rfl) 3 141 Tryz.underlying140 Tryz.underlying3 (.pointer none) (run_mapElem _) mb _ HMP.out i (by rfl) (by rfl) ?_)
 rw[HLK.out]
 go_wp2_with fail
 go_simp
 go_wp2_with fail
 refine HU.out.mono ?_
 rintro e w1 ⟨rfl,h1,t1,hz1⟩
 have d0:=(h1.kept (i,{ k with used:=clock+1 }) ((putI_mem' hk).2 (.inl rfl))).1.cell 0 (strV k.data) rfl
 have H1:=Lib.hid h1;have T1:=Lib.hid t1;have Z1:=Lib.hid hz1
 simp only[] at d0
 clear h1 t1 hz1
 go_wp2_with fail
 go_ret2
 exact⟨rfl,H1.out,T1.out,Z1.out⟩
def RoomEnd(F:Nat→Prop)(n most clock:Nat)(tx:List WrL)(g:Nat→Bytes)(cb p:Nat)(ms:Int)(mb:Nat)(m:KeptLs)(w:World)(e:Ending)(w':World):Prop :=
 e=.returned (.int .i64 0)∧Turn F w w'∧∃m',CacG w' F cb p most clock ms mb m'∧CacOk n most clock tx g m'∧m'.length<most∧∀i,getI i m=none→getI i m'=none
def RoomC(w:World)(F:Nat→Prop)(n most clock:Nat)(tx:List WrL)(g:Nat→Bytes)(cb p:Nat)(ms:Int)(mb:Nat)(m:KeptLs):Prop :=
 Calls Tryz.prog 113 #[ptrV cb] w fun e w'=>RoomEnd F n most clock tx g cb p ms mb m w e w'
theorem CGet_miss(w:World)(F:Nat→Prop)(cb p b n most clock:Nat)(ms:Int)(mb:Nat)(m:KeptLs)(tx:List WrL)(g:Nat→Bytes)(i:Nat)(h:CacG w F cb p most clock ms mb m)(ho:CacOk n most clock tx g m)(hj:w.cell? ⟨p,0,none⟩=some (ptrV b))(hg:getI i m=none)
  (hi:63≤i∧i<n) (hc:clock≤1000000000000000000) (hrd:Calls Tryz.prog 84 #[ptrV b,.int .i64 (i:Nat)] w fun e w'=>e=.returned (.tuple #[strV (g i),.int .i64 0])∧Q w w')
  (hroom:∀W,Q w W→CacG W F cb p most clock ms mb m→RoomC W F n most clock tx g cb p ms mb m) :
  Calls Tryz.prog 70 #[ptrV cb,.int .i64 (i:Nat)] w fun e w'=>e=.returned (.tuple #[strV (g i),.int .i64 0])∧Turn F w w'∧∃m' ms',CacG w' (grow F w w') cb p most (clock+1) ms' mb m'∧CacOk n most (clock+1) tx g m':=by
 obtain⟨gi,hgi⟩:∃gi,gi=g i:=⟨_,rfl⟩
 rw[←hgi] at hrd ⊢
 have c0:=h.box.cell 0 (.iface 82 (ptrV p)) rfl
 have c4:=h.box.cell 4 (.map (some mb)) rfl
 have hlk:=h.lookMiss hg
 have hmp:=h.map
 have HGI:=Lib.hid hgi
 clear hgi
 have HLK:=Lib.hid hlk;have HMP:=Lib.hid hmp;have HH:=Lib.hid h;have HO:=Lib.hid ho;have HRD:=Lib.hid hrd;have HRM:=Lib.hid hroom;have HG:=Lib.hid hg
 have hmr:=fun n=>method_read n w p b hj
 clear hlk hmp h ho hrd hroom hg
 go_enter Tryz.func70,Tryz.ntmps70
 go_wp2_with (at_lookup;refine wpList_lookup_int _ (by rfl) _ _ 140 false (by rfl) 3 141 Tryz.underlying140 Tryz.underlying3 (.pointer none) (run_mapElem _) mb _ HMP.out i (by rfl) (by rfl) ?_)
 rw[HLK.out]
 go_wp2_with fail
 go_simp
 go_wp2_with fail
 refine HRD.out.mono ?_
 rintro e w1 ⟨rfl,q1⟩
 have h1:=HH.out.keep q1
 have cr:=HRM.out w1 q1 h1
 have HQ1:=Lib.hid q1;have CR:=Lib.hid cr
 clear q1 h1 cr hmr
 go_wp2_with fail
 refine CR.out.mono ?_
 rintro e w2 ⟨rfl,t2,m',h2,o2,l2,n2⟩
 have hg2:=n2 i HG.out
 have hka:Blk (w2.alloc (.cells (kcells ⟨w2.heap.size,gi,false,0⟩) 147)) w2.heap.size 147 (kcells ⟨w2.heap.size,gi,false,0⟩):=Blk.new w2 _ _
 have h3:=h2.keep (Q.alloc w2 (.cells (kcells ⟨w2.heap.size,gi,false,0⟩) 147))
 have c4':=h3.box.cell 4 (.map (some mb)) rfl
 change (w2.alloc (.cells #[strV gi,.bool false,.int .i64 0,.int .i64 0] 147)).cell? ⟨cb,4,none⟩=some (.map (some mb)) at c4'
 have hm3:=h3.map
 have HKA:=Lib.hid hka;have H3:=Lib.hid h3;have HM3:=Lib.hid hm3;have T2:=Lib.hid t2;have O2:=Lib.hid (And.intro o2 (And.intro l2 hg2));have H2:=Lib.hid h2
 clear hka h3 hm3 t2 h2 o2 l2 n2 hg2 c0 c4
 go_wp2_with (at_mapUpdate;refine wpList_update_int _ (by rfl) _ _ _ 140 (by rfl) 3 141 Tryz.underlying140 Tryz.underlying3 mb _ HM3.out i (ptrV w2.heap.size) (by rfl) (by rfl) (by rfl) ?_)
 intro w4 hm4 hg4 hz4
 have t4:=CacG.turn_of_map hg4
 have h4:CacG w4 (fun x=>F x∨x=w2.heap.size) cb p most clock ms mb (putI i ⟨w2.heap.size,gi,false,0⟩ m'):=H3.out.laid O2.out.2.2 (k:=⟨w2.heap.size,gi,false,0⟩) rfl HKA.out (fun x=>Iff.rfl) hm4 t4
 have o4:CacOk n most clock tx g (putI i ⟨w2.heap.size,gi,false,0⟩ m'):=O2.out.1.lay O2.out.2.2 O2.out.2.1 hi ⟨w2.heap.size,gi,false,0⟩ (fun x hx e=>by have:=H2.out.lt _ (H2.out.kept x hx).2;rw[e] at this;exact Nat.lt_irrefl _ this) HGI.out rfl (Nat.zero_le _)
 have c3:=h4.box.cell 3 (.int .i64 ms) rfl
 have f3:=h4.box.frozen 3
 have T4:=Lib.hid t4;have H4:=Lib.hid h4;have O4:=Lib.hid o4;have HZ4:=Lib.hid hz4
 clear hm4 hg4 hz4 t4 h4 o4 c4'
 go_wp2_with fail
 have t5:Turn (fun x=>x=cb) w4 (w4.setCell ⟨cb,3,none⟩ (.int .i64 (wrap64 (ms+1)))):=Turn.setCell (a:=⟨cb,3,none⟩) (Turn.refl (fun x=>x=cb) w4) (.inl rfl) _
 have h5:=H4.out.turnBox t5 (clock':=clock) (ms':=wrap64 (ms+1)) (H4.out.box.set 3 _)
 have hk5:=O4.out.keys;have hp5:=O4.out.ptrs
 have hg5:getI i (putI i (⟨w2.heap.size,gi,false,0⟩:KeptL) m')=some ⟨w2.heap.size,gi,false,0⟩:=by rw[getI_putI,if_pos rfl]
 have cu:=Use_any _ _ cb p most clock _ mb _ i _ h5 hg5 hk5 hp5 hc
 have o5:=O4.out.use hg5
 have hs5:=setCell_size w4 ⟨cb,3,none⟩ (.int .i64 (wrap64 (ms+1)))
 have CU:=Lib.hid cu;have O5:=Lib.hid o5;have T5:=Lib.hid t5;have HS5:=Lib.hid hs5;have HK5:=Lib.hid hk5
 clear cu o5 t5 h5 hk5 hp5 hg5 c3 f3 hs5
 refine CU.out.mono ?_
 rintro e w6 ⟨rfl,h6,t6,hz6⟩
 have d0:=(h6.kept (i,⟨w2.heap.size,gi,false,clock+1⟩) ((putI_mem' HK5.out).2 (.inl rfl))).1.cell 0 (strV gi) rfl
 simp only[] at d0
 have H6:=Lib.hid h6;have T6:=Lib.hid t6;have HZ6:=Lib.hid hz6
 clear h6 t6 hz6
 go_wp2_with fail
 go_ret2
 have hsz2:w.heap.size≤w2.heap.size:=Nat.le_trans HQ1.out.size T2.out.size
 have hfm:F mb:=HH.out.fm
 have hfb:F cb:=HH.out.fb
 have ta:Turn F w (w2.alloc (.cells (kcells ⟨w2.heap.size,gi,false,0⟩) 147)):=((Turn.of_q HQ1.out).trans T2.out).q (Q.alloc _ _)
 have tb:Turn F w w4:=ta.trans (T4.out.mono (fun x hx=>by subst hx;exact hfm))
 have tc:=tb.trans (T5.out.mono (fun x hx=>by subst hx;exact hfb))
 have hw4:w2.heap.size<w4.heap.size:=by rw[HZ4.out];simp
 have td:Turn F w w6:=tc.step (T6.out.mono (fun x hx=>hx.elim .inl (fun hx=>.inr (by subst hx;exact⟨hsz2,by rw[HS5.out];exact hw4⟩))))
 refine⟨rfl,td,_,_,H6.out.mono (fun x hx=>hx.elim .inl (fun hx=>.inr (by subst hx;exact⟨hsz2,by rw[HZ6.out,HS5.out];exact hw4⟩))) (fun x hx=>hx.elim (fun hx=>Nat.lt_of_lt_of_le (HH.out.lt x hx) td.size) (fun hx=>hx.2)),O5.out⟩
theorem CGet_any(w:World)(F:Nat→Prop)(cb p b n most clock:Nat)(ms:Int)(mb:Nat)(m:KeptLs)(tx:List WrL)(g:Nat→Bytes)(i:Nat)(h:CacG w F cb p most clock ms mb m)(ho:CacOk n most clock tx g m)(hj:w.cell? ⟨p,0,none⟩=some (ptrV b))
  (hi:63≤i∧i<n) (hc:clock≤1000000000000000000) (hrd:Calls Tryz.prog 84 #[ptrV b,.int .i64 (i:Nat)] w fun e w'=>e=.returned (.tuple #[strV (g i),.int .i64 0])∧Q w w')
  (hroom:∀W,Q w W→CacG W F cb p most clock ms mb m→RoomC W F n most clock tx g cb p ms mb m) :
  Calls Tryz.prog 70 #[ptrV cb,.int .i64 (i:Nat)] w fun e w'=>e=.returned (.tuple #[strV (lastP tx i (g i)),.int .i64 0])∧Turn F w w'∧∃m' ms',CacG w' (grow F w w') cb p most (clock+1) ms' mb m'∧CacOk n most (clock+1) tx g m':=by
 cases hg:getI i m with
 | some k =>
  refine(CGet_hit w F cb p most clock ms mb m i k h hg ho.keys ho.ptrs hc).mono ?_
  rintro e w' ⟨rfl,h1,t1,hz⟩
  exact⟨by rw[ho.hit hg],t1,_,ms,h1.mono (fun x hx=>.inl hx) (fun x hx=>hx.elim (fun hx=>Nat.lt_of_lt_of_le (h.lt x hx) t1.size) (fun hx=>hx.2)),ho.use hg⟩
 | none =>
  refine(CGet_miss w F cb p b n most clock ms mb m tx g i h ho hj hg hi hc hrd hroom).mono ?_
  rintro e w' ⟨rfl,t1,h1⟩
  exact⟨by rw[lastP_none _ _ _ (ho.miss hg)],t1,h1⟩
theorem putI_putI{α:Type}(k:Nat)(u v:α)(m:List (Nat×α)):putI k v (putI k u m)=putI k v m:=by
 induction m with
 | nil=>simp[putI]
 | cons y m ih =>
  by_cases hy:y.1=k
  ·simp[putI,hy]
  ·simp[putI,hy,ih]
theorem CPut_old(w:World)(F:Nat→Prop)(cb p most clock:Nat)(ms:Int)(mb:Nat)(m:KeptLs)(i:Nat)(k:KeptL)(s:Bytes)(h:CacG w F cb p most clock ms mb m)(hg:getI i m=some k)(hk:(m.map (·.1)).Nodup)(hp:(m.map (·.2.p)).Nodup)(hc:clock≤1000000000000000000)(hs:s.length=256):
  Calls Tryz.prog 101 #[ptrV cb,.int .i64 (i:Nat),strV s] w fun e w'=>e=.returned (.int .i64 0)∧CacG w' F cb p most (clock+1) ms mb (putI i ⟨k.p,s,true,clock+1⟩ m)∧Turn F w w'∧w'.heap.size=w.heap.size:=by
 have hm:=getI_mem hg
 have hfp:=(h.kept _ hm).2
 have hlk:=h.lookHit hg
 have hmp:=h.map
 have c4:=h.box.cell 4 (.map (some mb)) rfl
 have hkb:=(h.kept _ hm).1
 have d0:=hkb.cell 0 (strV k.data) rfl
 have d1:=hkb.cell 1 (.bool k.dirty) rfl
 have f0:=hkb.frozen 0;have f1:=hkb.frozen 1
 simp only[] at d0 d1 f0 f1
 have hkb2:Blk ((w.setCell ⟨k.p,0,none⟩ (strV s)).setCell ⟨k.p,1,none⟩ (.bool true)) k.p 147 (kcells ⟨k.p,s,true,k.used⟩):=(hkb.set 0 (strV s)).set 1 (.bool true)
 have t2:Turn (fun x=>x=k.p) w ((w.setCell ⟨k.p,0,none⟩ (strV s)).setCell ⟨k.p,1,none⟩ (.bool true)):=Turn.setCell (a:=⟨k.p,1,none⟩) (Turn.setCell (a:=⟨k.p,0,none⟩) (Turn.refl (fun x=>x=k.p) w) (.inl rfl) _) (.inl rfl) _
 have h2:=h.turnKept hk hp hg (k':=⟨k.p,s,true,k.used⟩) rfl t2 hkb2
 have hg2:getI i (putI i (⟨k.p,s,true,k.used⟩:KeptL) m)=some ⟨k.p,s,true,k.used⟩:=by rw[getI_putI,if_pos rfl]
 have hu:=Use_any _ F cb p most clock ms mb _ i _ h2 hg2 (putI_nodup _ _ _ hk) (by rw[putI_ptrs (v:=⟨k.p,s,true,k.used⟩) hk hp hg rfl];exact hp) hc
 rw[putI_putI] at hu
 have hsz:((w.setCell ⟨k.p,0,none⟩ (strV s)).setCell ⟨k.p,1,none⟩ (.bool true)).heap.size=w.heap.size:=by rw[setCell_size,setCell_size]
 have e1:(!((s.length:Int)==256))=false:=by rw[beq_iff_eq.2 (by omega)];rfl
 have HU:=Lib.hid hu;have HLK:=Lib.hid hlk;have HMP:=Lib.hid hmp;have T2:=Lib.hid t2;have HSZ:=Lib.hid hsz;have HFP:=Lib.hid hfp
 clear hu hlk hmp h t2 hkb2 h2 hg2 hsz hm hk hp hg hkb hfp
 go_enter Tryz.func101,Tryz.ntmps101
 go_wp2_with (at_lookup;refine wpList_lookup_int _ (by rfl) _ _ 140 false (by rfl) 3 141 Tryz.underlying140 Tryz.underlying3 (.pointer none) (run_mapElem _) mb _ HMP.out i (by rfl) (by rfl) ?_)
 rw[HLK.out]
 go_wp2_with fail
 go_simp
 go_wp2_with fail
 refine HU.out.mono ?_
 rintro e w1 ⟨rfl,h1,t1,hz1⟩
 have H1:=Lib.hid h1;have T1:=Lib.hid t1;have Z1:=Lib.hid hz1
 clear h1 t1 hz1
 go_wp2_with fail
 go_ret
 exact⟨rfl,H1.out,(T2.out.mono (fun x hx=>by subst hx;exact HFP.out)).trans T1.out,by rw[Z1.out,HSZ.out]⟩
theorem CPut_new(w:World)(F:Nat→Prop)(cb p n most clock:Nat)(ms:Int)(mb:Nat)(m:KeptLs)(tx:List WrL)(g:Nat→Bytes)(i:Nat)(s:Bytes)(h:CacG w F cb p most clock ms mb m)(ho:CacOk n most clock tx g m)(hg:getI i m=none)
  (hi:63≤i∧i<n) (hc:clock≤1000000000000000000) (hs:s.length=256) (ht:(withL tx (i,s)).length≤48)
  (hroom:RoomC w F n most clock tx g cb p ms mb m) :
  Calls Tryz.prog 101 #[ptrV cb,.int .i64 (i:Nat),strV s] w fun e w'=>e=.returned (.int .i64 0)∧Turn F w w'∧∃m',CacG w' (grow F w w') cb p most (clock+1) ms mb m'∧CacOk n most (clock+1) (withL tx (i,s)) g m':=by
 have c4:=h.box.cell 4 (.map (some mb)) rfl
 have hlk:=h.lookMiss hg
 have hmp:=h.map
 have e1:(!((s.length:Int)==256))=false:=by rw[beq_iff_eq.2 (by omega)];rfl
 have HLK:=Lib.hid hlk;have HMP:=Lib.hid hmp;have HH:=Lib.hid h;have HO:=Lib.hid ho;have HRM:=Lib.hid hroom;have HG:=Lib.hid hg;have HT:=Lib.hid ht
 clear hlk hmp h ho hroom hg ht
 go_enter Tryz.func101,Tryz.ntmps101
 go_wp2_with (at_lookup;refine wpList_lookup_int _ (by rfl) _ _ 140 false (by rfl) 3 141 Tryz.underlying140 Tryz.underlying3 (.pointer none) (run_mapElem _) mb _ HMP.out i (by rfl) (by rfl) ?_)
 rw[HLK.out]
 go_wp2_with fail
 go_simp
 go_wp2_with fail
 refine HRM.out.mono ?_
 rintro e w2 ⟨rfl,t2,m',h2,o2,l2,n2⟩
 have hg2:=n2 i HG.out
 have hka:Blk (w2.alloc (.cells (kcells ⟨w2.heap.size,[],false,0⟩) 147)) w2.heap.size 147 (kcells ⟨w2.heap.size,[],false,0⟩):=Blk.new w2 _ _
 have h3:=h2.keep (Q.alloc w2 (.cells (kcells ⟨w2.heap.size,[],false,0⟩) 147))
 have c4':=h3.box.cell 4 (.map (some mb)) rfl
 change (w2.alloc (.cells #[strV [],.bool false,.int .i64 0,.int .i64 0] 147)).cell? ⟨cb,4,none⟩=some (.map (some mb)) at c4'
 have hm3:=h3.map
 have HKA:=Lib.hid hka;have H3:=Lib.hid h3;have HM3:=Lib.hid hm3;have T2:=Lib.hid t2;have O2:=Lib.hid (And.intro o2 (And.intro l2 hg2));have H2:=Lib.hid h2
 clear hka h3 hm3 t2 h2 o2 l2 n2 hg2 c4
 go_wp2_with (at_mapUpdate;refine wpList_update_int _ (by rfl) _ _ _ 140 (by rfl) 3 141 Tryz.underlying140 Tryz.underlying3 mb _ HM3.out i (ptrV w2.heap.size) (by rfl) (by rfl) (by rfl) ?_)
 intro w4 hm4 hg4 hz4
 have t4:=CacG.turn_of_map hg4
 have h4:CacG w4 (fun x=>F x∨x=w2.heap.size) cb p most clock ms mb (putI i ⟨w2.heap.size,[],false,0⟩ m'):=H3.out.laid O2.out.2.2 (k:=⟨w2.heap.size,[],false,0⟩) rfl HKA.out (fun x=>Iff.rfl) hm4 t4
 have hpn:∀x∈m',x.2.p≠w2.heap.size:=fun x hx e=>by have:=H2.out.lt _ (H2.out.kept x hx).2;rw[e] at this;exact Nat.lt_irrefl _ this
 have o4:CacOk n most (clock+1) (withL tx (i,s)) g (putI i ⟨w2.heap.size,s,true,clock+1⟩ m'):=O2.out.1.putNew O2.out.2.2 O2.out.2.1 hi w2.heap.size hpn s HT.out
 have hk4:=putI_nodup i (⟨w2.heap.size,[],false,0⟩:KeptL) m' O2.out.1.keys
 have hp4:((putI i (⟨w2.heap.size,[],false,0⟩:KeptL) m').map (·.2.p)).Nodup:=by
  rw[putI_none O2.out.2.2,List.map_append]
  refine List.nodup_append.2 ⟨O2.out.1.ptrs,by simp,fun a ha b hb=>?_⟩
  obtain⟨x,hx,rfl⟩:=List.mem_map.1 ha
  simp only[List.map_cons,List.map_nil,List.mem_singleton] at hb
  subst hb;exact hpn x hx
 have hg4':getI i (putI i (⟨w2.heap.size,[],false,0⟩:KeptL) m')=some ⟨w2.heap.size,[],false,0⟩:=by rw[getI_putI,if_pos rfl]
 have hkb:=(h4.kept _ (getI_mem hg4')).1
 have d0:=hkb.cell 0 (strV []) rfl
 have d1:=hkb.cell 1 (.bool false) rfl
 have f0:=hkb.frozen 0;have f1:=hkb.frozen 1
 simp only[] at d0 d1 f0 f1
 have hkb2:Blk ((w4.setCell ⟨w2.heap.size,0,none⟩ (strV s)).setCell ⟨w2.heap.size,1,none⟩ (.bool true)) w2.heap.size 147 (kcells ⟨w2.heap.size,s,true,0⟩):=(hkb.set 0 (strV s)).set 1 (.bool true)
 have t5:Turn (fun x=>x=w2.heap.size) w4 ((w4.setCell ⟨w2.heap.size,0,none⟩ (strV s)).setCell ⟨w2.heap.size,1,none⟩ (.bool true)):=Turn.setCell (a:=⟨w2.heap.size,1,none⟩) (Turn.setCell (a:=⟨w2.heap.size,0,none⟩) (Turn.refl (fun x=>x=w2.heap.size) w4) (.inl rfl) _) (.inl rfl) _
 have h5:=h4.turnKept hk4 hp4 hg4' (k':=⟨w2.heap.size,s,true,0⟩) rfl t5 hkb2
 have hg5:getI i (putI i (⟨w2.heap.size,s,true,0⟩:KeptL) (putI i ⟨w2.heap.size,[],false,0⟩ m'))=some ⟨w2.heap.size,s,true,0⟩:=by rw[getI_putI,if_pos rfl]
 have cu:=Use_any _ _ cb p most clock ms mb _ i _ h5 hg5 (putI_nodup _ _ _ hk4) (by rw[putI_ptrs (v:=⟨w2.heap.size,s,true,0⟩) hk4 hp4 hg4' rfl];exact hp4) hc
 rw[putI_putI,putI_putI] at cu
 have hs5:((w4.setCell ⟨w2.heap.size,0,none⟩ (strV s)).setCell ⟨w2.heap.size,1,none⟩ (.bool true)).heap.size=w4.heap.size:=by rw[setCell_size,setCell_size]
 have CU:=Lib.hid cu;have O4:=Lib.hid o4;have T4:=Lib.hid t4;have T5:=Lib.hid t5;have HS5:=Lib.hid hs5;have HZ4:=Lib.hid hz4
 clear hm4 hg4 hz4 t4 h4 o4 c4' hk4 hp4 hg4' hkb hkb2 t5 h5 hg5 cu hs5 hpn
 go_wp2_with fail
 refine CU.out.mono ?_
 rintro e w6 ⟨rfl,h6,t6,hz6⟩
 have H6:=Lib.hid h6;have T6:=Lib.hid t6;have HZ6:=Lib.hid hz6
 clear h6 t6 hz6
 go_wp2_with fail
 go_ret
 have hsz2:w.heap.size≤w2.heap.size:=T2.out.size
 have ta:Turn F w (w2.alloc (.cells (kcells ⟨w2.heap.size,[],false,0⟩) 147)):=T2.out.q (Q.alloc _ _)
 have tb:Turn F w w4:=ta.trans (T4.out.mono (fun x hx=>by subst hx;exact HH.out.fm))
 have hw4:w2.heap.size<w4.heap.size:=by rw[HZ4.out];simp
 have tc:=tb.step (T5.out.mono (own':=grow F w w4) (fun x hx=>by subst hx;exact .inr ⟨hsz2,hw4⟩))
 have td:Turn F w w6:=tc.step (T6.out.mono (fun x hx=>hx.elim .inl (fun hx=>.inr (by subst hx;exact⟨hsz2,by rw[HS5.out];exact hw4⟩))))
 exact⟨rfl,td,_,H6.out.mono (fun x hx=>hx.elim .inl (fun hx=>.inr (by subst hx;exact⟨hsz2,by rw[HZ6.out,HS5.out];exact hw4⟩))) (fun x hx=>hx.elim (fun hx=>Nat.lt_of_lt_of_le (HH.out.lt x hx) td.size) (fun hx=>hx.2)),O4.out⟩
theorem CPut_any(w:World)(F:Nat→Prop)(cb p n most clock:Nat)(ms:Int)(mb:Nat)(m:KeptLs)(tx:List WrL)(g:Nat→Bytes)(i:Nat)(s:Bytes)(h:CacG w F cb p most clock ms mb m)(ho:CacOk n most clock tx g m)
  (hi:63≤i∧i<n) (hc:clock≤1000000000000000000) (hs:s.length=256) (ht:(withL tx (i,s)).length≤48)
  (hroom:RoomC w F n most clock tx g cb p ms mb m) :
  Calls Tryz.prog 101 #[ptrV cb,.int .i64 (i:Nat),strV s] w fun e w'=>e=.returned (.int .i64 0)∧Turn F w w'∧∃m',CacG w' (grow F w w') cb p most (clock+1) ms mb m'∧CacOk n most (clock+1) (withL tx (i,s)) g m':=by
 cases hg:getI i m with
 | some k =>
  refine(CPut_old w F cb p most clock ms mb m i k s h hg ho.keys ho.ptrs hc hs).mono ?_
  rintro e w' ⟨rfl,h1,t1,hz⟩
  exact⟨rfl,t1,_,h1.mono (fun x hx=>.inl hx) (fun x hx=>hx.elim (fun hx=>Nat.lt_of_lt_of_le (h.lt x hx) t1.size) (fun hx=>hx.2)),ho.putOld hg s ht⟩
 | none=>exact CPut_new w F cb p n most clock ms mb m tx g i s h ho hg hi hc hs ht hroom
end
section
open Go.RowKit Go.MapKept Go.Maps
open Go.ChangeMaps (setBlock)
def keyN:Value→Nat
 | .int _ x=>x.toNat
 | _=>0
theorem keyN_key(k:Nat):keyN (keyI k)=k:=by simp[keyN]
def RangeI(w:World)(b r:Nat)(m:List (Nat×Value))(left:List Nat):Prop :=
 ∃es clock since seen c0,w.heap[b]?=some (.map es clock)∧Stamped es clock∧es.toList.map kvI=m.map kvN∧w.heap[r]?=some (.mapIter (some b) since seen c0)∧(∀x∈es.toList,x.born<since)∧since≤c0∧since≤clock ∧
  left=(leftOf es seen).toList.map fun e=>keyN e.key
theorem RangeI.map{w:World}{b r:Nat}{m:List (Nat×Value)}{left:List Nat}(h:RangeI w b r m left):MapI w b m:=by
 obtain⟨es,clock,since,seen,c0,h1,h2,h3,_⟩:=h
 exact⟨es,clock,h1,h2,h3⟩
theorem RangeI.same{w w':World}{b r:Nat}{m:List (Nat×Value)}{left:List Nat}(h:RangeI w b r m left)(hb:w'.heap[b]?=w.heap[b]?)(hr:w'.heap[r]?=w.heap[r]?):RangeI w' b r m left:=by
 obtain⟨es,clock,since,seen,c0,h1,h2,h3,h4,rest⟩:=h
 exact⟨es,clock,since,seen,c0,hb.trans h1,h2,h3,hr.trans h4,rest⟩
theorem RangeI.iter{w:World}{b r:Nat}{m:List (Nat×Value)}{left:List Nat}(h:RangeI w b r m left):∃since seen c0,w.heap[r]?=some (.mapIter (some b) since seen c0):=by
 obtain⟨es,clock,since,seen,c0,h1,h2,h3,h4,rest⟩:=h
 exact⟨_,_,_,h4⟩
theorem keys_of{l:List MapEntry}{m:List (Nat×Value)}(h:l.map kvI=m.map kvN):l.map (fun e=>keyN e.key)=m.map (·.1):=by
 have:=congrArg (List.map fun x:Value×Value=>keyN x.1) h
 simp only[List.map_map,Function.comp_def,keyN_key] at this
 exact this
theorem RangeI.made{P:Program}{w:World}{b:Nat}{m:List (Nat×Value)}(h:MapI w b m)(t kt et:TypeId)(ht:P.underlying t=some (.map kt et)):
  ∃o,(Instr.range t (.map (some b))).run P w=.ok (.pointer (some ⟨w.heap.size,0,none⟩)) (w.alloc o)∧RangeI (w.alloc o) b w.heap.size m (m.map (·.1)):=by
 have hlt:=h.lt
 obtain⟨es,clock,hb,hs,hm⟩:=h
 refine⟨_,run_range_map w t kt et b es clock ht hb,es,clock,clock,#[],clock,((MapKept.heap_alloc w _).2 b hlt).trans hb,hs,hm,(MapKept.heap_alloc w _).1,hs.1,Nat.le_refl _,Nat.le_refl _,?_⟩
 rw[←keys_of hm]
 congr 1
 simp only[leftOf,Array.toList_filter]
 exact(List.filter_eq_self.2 (fun e _=>by simp)).symm
theorem leftOf_push{es:Array MapEntry}{clock:Nat}(hs:Stamped es clock)(seen:Array Nat){e:MapEntry}(he:e∈(leftOf es seen).toList):
  ((leftOf es seen).toList).Perm (e::(leftOf es (seen.push e.born)).toList):=by
 have hb:=((stamped_iff es clock).1 hs).2.1
 have hnd:es.toList.Nodup:=(List.pairwise_map.1 hb).imp (fun hne e=>hne (congrArg _ e))
 have h1:(leftOf es seen).toList=es.toList.filter fun x => !seen.contains x.born:=by simp[leftOf]
 have h2:(leftOf es (seen.push e.born)).toList=es.toList.filter fun x => !(seen.push e.born).contains x.born:=by simp[leftOf]
 have hem:e∈es.toList:=by rw[h1] at he;exact(List.mem_filter.1 he).1
 have hes:(!seen.contains e.born)=true:=by rw[h1] at he;exact(List.mem_filter.1 he).2
 refine(List.perm_ext_iff_of_nodup ?_ ?_).2 (fun x=>?_)
 ·rw[h1];exact hnd.filter _
 ·rw[List.nodup_cons,h2]
  refine⟨fun hc=>?_,hnd.filter _⟩
  have:=(List.mem_filter.1 hc).2
  simp[Array.contains_push] at this
 ·rw[h1,List.mem_cons,h2,List.mem_filter,List.mem_filter]
  have inj:∀x∈es.toList,x.born=e.born→x=e:=fun x hx hxe=>born_inj hb hx hem hxe
  constructor
  ·rintro⟨hx,hx2⟩
   by_cases hxe:x.born=e.born
   ·exact .inl (inj x hx hxe)
   ·refine .inr ⟨hx,?_⟩
    simp only[Array.contains_push,Bool.not_or,Bool.and_eq_true]
    exact⟨hx2,by simpa using hxe⟩
  ·rintro(rfl|⟨hx,hx2⟩)
   ·exact⟨hem,hes⟩
   ·simp only[Array.contains_push,Bool.not_or,Bool.and_eq_true] at hx2
    exact⟨hx,hx2.1⟩
theorem RangeI.next{P:Program}{w:World}{b r:Nat}{m:List (Nat×Value)}{left:List Nat}(h:RangeI w b r m left):
  (left=[]∧∀ty,(Instr.next (.pointer (some ⟨r,0,none⟩)) false ty).run P w=.ok (.tuple #[.bool false]) w) ∨
  ∃k v left' w',(k,v)∈m∧left.Perm (k::left')∧(∀ty,(Instr.next (.pointer (some ⟨r,0,none⟩)) false ty).run P w=.ok (.tuple #[.bool true,keyI k,v]) w')∧RangeI w' b r m left'∧w.grownBy w' (some r)∧w'.heap.size=w.heap.size ∧
   (Instr.entry (.pointer (some ⟨r,0,none⟩))).run P w'=.ok (.tuple #[keyI k,v]) w':=by
 obtain⟨es,clock,since,seen,c0,hb,hs,hm,hr,hold,hsc,hsk,rfl⟩:=h
 have hne:r≠b:=by rintro rfl;rw[hb] at hr;cases hr
 rcases run_next_at (P:=P) w 0 r b since c0 seen es clock hr hb hold hsc with ⟨h0,_⟩|⟨e,he,w1,hal,hrun⟩
 ·left
  refine⟨by rw[List.map_eq_nil_iff];exact List.eq_nil_of_length_eq_zero (by simpa using h0),fun ty=>?_⟩
  rcases run_next_at (P:=P) w ty r b since c0 seen es clock hr hb hold hsc with ⟨_,hrun⟩|⟨e,he,_⟩
  ·exact hrun
  ·have:=List.length_pos_of_mem he
   simp only[Array.length_toList] at this
   omega
 ·right
  obtain⟨hem,hes⟩:=mem_left he
  have hkv:kvI e∈m.map kvN:=by rw[←hm];exact List.mem_map.2 ⟨e,hem,rfl⟩
  obtain⟨⟨k,v⟩,hkm,hke⟩:=List.mem_map.1 hkv
  have hk:e.key=keyI k:=(congrArg Prod.fst hke).symm
  have hv:e.val=v:=(congrArg Prod.snd hke).symm
  have hr1:w1.heap[r]?=some (.mapIter (some b) since seen c0):=by rcases hal with rfl|rfl<;>exact hr
  have hb1:w1.heap[b]?=some (.map es clock):=by rcases hal with rfl|rfl<;>exact hb
  have hset:=heap_set (o':=.mapIter (some b) since (seen.push e.born) clock) hr1
  have hb':(setBlock w1 r (.mapIter (some b) since (seen.push e.born) clock)).heap[b]?=some (.map es clock):=(hset.2 b (fun e1=>hne e1.symm)).trans hb1
  refine⟨k,v,(leftOf es (seen.push e.born)).toList.map fun e=>keyN e.key,setBlock w1 r (.mapIter (some b) since (seen.push e.born) clock),hkm,?_,fun ty=>?_,⟨es,clock,since,seen.push e.born,clock,hb',hs,hm,hset.1,hold,hsk,hsk,rfl⟩,?_,?_,?_⟩
  ·have:=(leftOf_push hs seen he).map fun e=>keyN e.key
   rw[List.map_cons,hk,keyN_key] at this
   exact this
  ·have hrun2:(Instr.next (.pointer (some ⟨r,0,none⟩)) false ty).run P w=(Instr.next (.pointer (some ⟨r,0,none⟩)) false 0).run P w:=by
    simp only[Instr.next]
   rw[hrun2,hrun,hk,hv]
  ·rcases hal with rfl|rfl<;>exact⟨rfl,rfl,rfl,by simp[setBlock],fun i _ hi=>hset.2 i (fun e1=>hi (by rw[e1]))⟩
  ·rcases hal with rfl|rfl<;>simp[setBlock]
  ·have:=run_entry_at (P:=P) _ r b since seen es clock e hset.1 hb' hem ((stamped_iff es clock).1 hs).2.1
   rw[hk,hv] at this
   exact this
theorem RangeI.nodup{w:World}{b r:Nat}{m:List (Nat×Value)}{left:List Nat}(h:RangeI w b r m left):left.Nodup∧∀k∈left,k∈m.map (·.1):=by
 have hmn:=h.map.nodup
 obtain⟨es,clock,since,seen,c0,hb,hs,hm,hr,hold,hsc,hsk,rfl⟩:=h
 have h1:(leftOf es seen).toList=es.toList.filter fun x => !seen.contains x.born:=by simp[leftOf]
 have hsub:((leftOf es seen).toList.map fun e=>keyN e.key).Sublist (m.map (·.1)):=by
  rw[←keys_of hm,h1];exact List.filter_sublist.map _
 exact⟨hsub.nodup hmn,fun k hk=>hsub.subset hk⟩
theorem filter_eraseIdx{α:Type}(p:α→Bool):∀(l:List α) (j:Nat) (x:α),l[j]?=some x→p x=false→(l.eraseIdx j).filter p=l.filter p
 | [],j,x,h,_=>by simp at h
 | y::l,0,x,h,hp=>by
  simp at h;subst h
  simp[hp]
 | y::l,j+1,x,h,hp=>by
  have:=filter_eraseIdx p l j x (by simpa using h) hp
  simp[List.filter_cons,this]
theorem RangeI.delete{P:Program}{w:World}{b r:Nat}{m:List (Nat×Value)}{left:List Nat}(h:RangeI w b r m left){k:Nat}(hk:k∉left)(hm:k∈m.map (·.1))(t kt et:TypeId)(ht:P.underlying t=some (.map kt et))(hd:P.underlying kt=some (.int .i64)):
  ∃w',(∀ty,(Builtin.delete_ #[t,kt] ty #[.map (some b),keyI k]).run P w=.ok (.tuple #[]) w')∧RangeI w' b r (delI k m) left∧w.grownBy w' (some b)∧w'.heap.size=w.heap.size:=by
 obtain⟨es,clock,since,seen,c0,hb,hs,hmm,hr,hold,hsc,hsk,rfl⟩:=h
 have hne:r≠b:=by rintro rfl;rw[hb] at hr;cases hr
 have hkk:IsKey (.int .i64) (keyI k):=rfl
 rcases findI k m es.toList 0 hmm with ⟨a,f,g,_,p⟩|⟨j,e,u,hj,he,hv,hmj,a,f,_,p⟩
 ·obtain⟨x,hx,e⟩:=List.mem_map.1 hm
  exact absurd e (getI_none.1 a x hx)
 ·have hlt:j<es.size:=by
   have:=(List.getElem?_eq_some_iff.1 hj).1
   simpa using this
  have hes:(es.eraseIdxIfInBounds j).toList=es.toList.eraseIdx j:=by
   unfold Array.eraseIdxIfInBounds
   rw[dif_pos hlt];simp
  have hem:e∈es.toList:=List.mem_of_getElem? hj
  have h1:∀es':Array MapEntry,(leftOf es' seen).toList=es'.toList.filter fun x => !seen.contains x.born:=fun es'=>by simp[leftOf]
  have hpe:(!seen.contains e.born)=false:=by
   cases hc:(!seen.contains e.born) with
   | false=>rfl
   | true =>
    refine absurd (List.mem_map.2 ⟨e,?_,by rw[he,keyN_key]⟩) hk
    rw[h1];exact List.mem_filter.2 ⟨hem,hc⟩
  refine⟨{ w with heap:=w.heap.setIfInBounds b (.map (es.eraseIdxIfInBounds j) clock) },fun ty=>?_,⟨es.eraseIdxIfInBounds j,clock,since,seen,c0,(heap_set hb).1,stamped_erase hs j,?_,((heap_set hb).2 r hne).trans hr,fun x hx=>hold x ?_,hsc,hsk,?_⟩,⟨rfl,rfl,rfl,by simp,fun i _ hi=>(heap_set hb).2 i (fun e=>hi (by rw[e]))⟩,by simp⟩
  ·simp[Builtin.delete_,run_underlying ht,MapKept.run_getObj_map hb,run_checkKey hd hkk,run_findKey hd f,run_setObj_map _ hb,Result.andThen]
  ·rw[p,map_eraseIdx',←hmm,←map_eraseIdx',hes]
  ·rw[hes] at hx;exact List.mem_of_mem_eraseIdx hx
  ·rw[h1,h1,hes,filter_eraseIdx _ _ j e hj hpe]
theorem RangeI.len{w:World}{b r:Nat}{m:List (Nat×Value)}{left:List Nat}(h:RangeI w b r m left):w.rangeLeft b r=left.length:=by
 obtain⟨es,clock,since,seen,c0,hb,hs,hm,hr,hold,hsc,hsk,rfl⟩:=h
 simp only[World.rangeLeft,hb,hr,List.length_map,Array.length_toList]
theorem Itk.turned{own:Nat→Prop}{lo:Nat}{A B:World}{l:Nat}{o:Obj}(hg:A.grownBy B (some l))(h:A.heap[l]?=some o)(hc:o.isCells=false)(hl:lo≤l):Itk own lo A B :=
 ⟨hg.os,hg.tape,hg.output,hg.size,fun k h1 h2 _=>hg.block k h2 (fun e=>by injection e with e;omega),fun k o2 h1 h2 _=>(hg.block k (lt_of_get h1) (fun e=>by injection e with e;subst e;rw[h] at h1;cases h1;rw[hc] at h2;cases h2)).trans h1⟩
end
end Go.Proofs.YthcpkgfieoneeaaGreatDoor
