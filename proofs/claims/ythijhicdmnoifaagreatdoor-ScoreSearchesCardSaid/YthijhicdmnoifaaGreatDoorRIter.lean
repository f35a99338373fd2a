/- The kit's contracts on sorted keys of a map, laid at this dump (printed by the kit). -/
import Derived.Shelf.SlIter.Nil
import Derived.Shelf.SortM.Plain
import Derived.Shelf.SortM.SortNone
import Derived.Test.YthijhicdmnoifaaGreatDoorProg
namespace Go.Proofs
open Go.RowKit Go.Maps Go.Sort Go.Shelf
shelf_lay_g SlLaysZ.n7 Ggz 7 at Tryz 89 as Tryz.keys89
shelf_lay_g SlLaysZ.n6 Ggz 6 at Tryz 88 as Tryz.sorted88
shelf_lay_g SlLaysM.n6 Slgm 6 at Tryz 134 as Tryz.sort134
theorem Tryz.sorts88(m:Nat):AnyZ.SortsIn Tryz.prog Tryz.sorted88_ren Fence.wide m :=
 ⟨fun blk off cap ss W hH hblk hsz=>callsIn_wide.2 (AnyM.slices_Sort_string Tryz.sort134 blk off cap ss W hH hblk hsz),
  fun p cap W=>callsIn_wide.2 (AnyM.slices_Sort_string_none Tryz.sort134 p cap W)⟩
theorem Tryz.maps_Keys_89(mb:Option Nat)(W:World):CallsIn Fence.wide 5 Tryz.prog 89 #[.map mb] W fun e w'=>e=.returned (.func (.func 135) #[] #[.pointer (some ⟨W.heap.size,0,none⟩)])∧w'=W.alloc (.cells #[.map mb] 115) :=
 AnyZ.keys_in Tryz.keys89 Fence.wide 5 trivial rfl mb W
set_option maxHeartbeats 1000000 in
theorem Tryz.slices_Sorted_keys_88_89{H:Type}(b nn:Nat)(D0:DataW H)(R:Value→Option (DataW H×List MemPlace))(w:World)(hown:w.ownsMap Tryz.prog 9 R b nn D0)(hmax:Maps.size D0≤maxLen)(hbytes:Maps.size D0*16≤140737488355328):
  CallsIn Fence.wide 5 Tryz.prog 88 #[.func (.func 135) #[] #[.pointer (some ⟨w.heap.size,0,none⟩)]] (w.alloc (.cells #[.map (some b)] 115)) fun e w'=>∃(v:Value) (ss:List (List UInt8)),e=.returned v∧ss.Perm (strKeys D0) ∧
   w'.ownsRow (w.alloc (.cells #[.map (some b)] 115)).heap.size 9 1 v ss.length ((ss.mergeSort (fun x y=>decide (x≤y))).map encStr)∧(v=.slice none 0 0↔ss=[])∧Below (w.alloc (.cells #[.map (some b)] 115)).heap.size (w.alloc (.cells #[.map (some b)] 115)) w':=by
 have hbl:=hown.lt
 have hseq:SeqGives Fence.wide 2 Tryz.prog 135 #[.pointer (some ⟨w.heap.size,0,none⟩)] encStr (fun ss=>ss.Perm (strKeys D0)) (Maps.size D0) (w.alloc (.cells #[.map (some b)] 115)) :=
  AnyZ.keys_gives (ρ:=Tryz.keys89_ren) { Tryz.keys89 with } Fence.wide _ trivial rfl (by omega) w.heap.size b nn D0 _ (by simp) (by simp) (by
   obtain⟨es,clock,hb,Ft,hs,hD⟩:=hown
   exact⟨es,clock,(Below.heap_alloc _ _ b hbl).trans hb,Ft,hs,hD⟩)
 exact AnyZ.sorted_in Tryz.sorted88 Fence.wide 5 trivial trivial trivial trivial rfl (by omega) (Tryz.sorts88 _) (enters_of Tryz.func134 (by kernel_rfl) rfl) 135 #[.pointer (some ⟨w.heap.size,0,none⟩)] trivial (enters_of Tryz.func135 (by kernel_rfl) rfl) _ _ hmax hbytes _ hseq
set_option maxHeartbeats 1000000 in
theorem Tryz.slices_Sorted_keys_nil_88_89(w:World):
  CallsIn Fence.wide 5 Tryz.prog 88 #[.func (.func 135) #[] #[.pointer (some ⟨w.heap.size,0,none⟩)]] (w.alloc (.cells #[.map none] 115)) fun e w'=>∃(v:Value) (ss:List (List UInt8)),e=.returned v∧ss=[] ∧
   w'.ownsRow (w.alloc (.cells #[.map none] 115)).heap.size 9 1 v ss.length ((ss.mergeSort (fun x y=>decide (x≤y))).map encStr)∧(v=.slice none 0 0↔ss=[])∧Below (w.alloc (.cells #[.map none] 115)).heap.size (w.alloc (.cells #[.map none] 115)) w':=by
 have hseq:SeqGives Fence.wide 2 Tryz.prog 135 #[.pointer (some ⟨w.heap.size,0,none⟩)] encStr (fun ss:List (List UInt8)=>ss=[]) 0 (w.alloc (.cells #[.map none] 115)) :=
  AnyZ.keys_gives_nil (ρ:=Tryz.keys89_ren) { Tryz.keys89 with } Fence.wide _ trivial rfl w.heap.size _ (by simp) (by simp)
 exact AnyZ.sorted_in Tryz.sorted88 Fence.wide 5 trivial trivial trivial trivial rfl (by omega) (Tryz.sorts88 _) (enters_of Tryz.func134 (by kernel_rfl) rfl) 135 #[.pointer (some ⟨w.heap.size,0,none⟩)] trivial (enters_of Tryz.func135 (by kernel_rfl) rfl) _ 0 (Nat.zero_le _) (by omega) _ hseq
shelf_lay_g SlLaysZ.n7 Ggz 7 at Tryz 157 as Tryz.keys157
theorem Tryz.maps_Keys_157(mb:Option Nat)(W:World):CallsIn Fence.wide 5 Tryz.prog 157 #[.map mb] W fun e w'=>e=.returned (.func (.func 182) #[] #[.pointer (some ⟨W.heap.size,0,none⟩)])∧w'=W.alloc (.cells #[.map mb] 250) :=
 AnyZ.keys_in Tryz.keys157 Fence.wide 5 trivial rfl mb W
set_option maxHeartbeats 1000000 in
theorem Tryz.slices_Sorted_keys_88_157{H:Type}(b nn:Nat)(D0:DataW H)(R:Value→Option (DataW H×List MemPlace))(w:World)(hown:w.ownsMap Tryz.prog 9 R b nn D0)(hmax:Maps.size D0≤maxLen)(hbytes:Maps.size D0*16≤140737488355328):
  CallsIn Fence.wide 5 Tryz.prog 88 #[.func (.func 182) #[] #[.pointer (some ⟨w.heap.size,0,none⟩)]] (w.alloc (.cells #[.map (some b)] 250)) fun e w'=>∃(v:Value) (ss:List (List UInt8)),e=.returned v∧ss.Perm (strKeys D0) ∧
   w'.ownsRow (w.alloc (.cells #[.map (some b)] 250)).heap.size 9 1 v ss.length ((ss.mergeSort (fun x y=>decide (x≤y))).map encStr)∧(v=.slice none 0 0↔ss=[])∧Below (w.alloc (.cells #[.map (some b)] 250)).heap.size (w.alloc (.cells #[.map (some b)] 250)) w':=by
 have hbl:=hown.lt
 have hseq:SeqGives Fence.wide 2 Tryz.prog 182 #[.pointer (some ⟨w.heap.size,0,none⟩)] encStr (fun ss=>ss.Perm (strKeys D0)) (Maps.size D0) (w.alloc (.cells #[.map (some b)] 250)) :=
  AnyZ.keys_gives (ρ:=Tryz.keys157_ren) { Tryz.keys157 with } Fence.wide _ trivial rfl (by omega) w.heap.size b nn D0 _ (by simp) (by simp) (by
   obtain⟨es,clock,hb,Ft,hs,hD⟩:=hown
   exact⟨es,clock,(Below.heap_alloc _ _ b hbl).trans hb,Ft,hs,hD⟩)
 exact AnyZ.sorted_in Tryz.sorted88 Fence.wide 5 trivial trivial trivial trivial rfl (by omega) (Tryz.sorts88 _) (enters_of Tryz.func134 (by kernel_rfl) rfl) 182 #[.pointer (some ⟨w.heap.size,0,none⟩)] trivial (enters_of Tryz.func182 (by kernel_rfl) rfl) _ _ hmax hbytes _ hseq
set_option maxHeartbeats 1000000 in
theorem Tryz.slices_Sorted_keys_nil_88_157(w:World):
  CallsIn Fence.wide 5 Tryz.prog 88 #[.func (.func 182) #[] #[.pointer (some ⟨w.heap.size,0,none⟩)]] (w.alloc (.cells #[.map none] 250)) fun e w'=>∃(v:Value) (ss:List (List UInt8)),e=.returned v∧ss=[] ∧
   w'.ownsRow (w.alloc (.cells #[.map none] 250)).heap.size 9 1 v ss.length ((ss.mergeSort (fun x y=>decide (x≤y))).map encStr)∧(v=.slice none 0 0↔ss=[])∧Below (w.alloc (.cells #[.map none] 250)).heap.size (w.alloc (.cells #[.map none] 250)) w':=by
 have hseq:SeqGives Fence.wide 2 Tryz.prog 182 #[.pointer (some ⟨w.heap.size,0,none⟩)] encStr (fun ss:List (List UInt8)=>ss=[]) 0 (w.alloc (.cells #[.map none] 250)) :=
  AnyZ.keys_gives_nil (ρ:=Tryz.keys157_ren) { Tryz.keys157 with } Fence.wide _ trivial rfl w.heap.size _ (by simp) (by simp)
 exact AnyZ.sorted_in Tryz.sorted88 Fence.wide 5 trivial trivial trivial trivial rfl (by omega) (Tryz.sorts88 _) (enters_of Tryz.func134 (by kernel_rfl) rfl) 182 #[.pointer (some ⟨w.heap.size,0,none⟩)] trivial (enters_of Tryz.func182 (by kernel_rfl) rfl) _ 0 (Nat.zero_le _) (by omega) _ hseq
end Go.Proofs
