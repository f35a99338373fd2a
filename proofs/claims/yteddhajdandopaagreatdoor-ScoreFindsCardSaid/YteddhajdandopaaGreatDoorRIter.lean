/- The kit's contracts on sorted keys of a map, laid at this dump (printed by the kit). -/
import Derived.Shelf.SlIter.Nil
import Derived.Shelf.SortM.Plain
import Derived.Shelf.SortM.SortNone
import Derived.Ground.GgzProg
import Derived.Ground.SlgmProg
import Derived.Test.YteddhajdandopaaGreatDoorProg
namespace Go.Proofs
open Go.RowKit Go.Maps Go.Sort Go.Shelf
shelf_lay_g SlLaysZ.n7 Ggz 7 at Tryz 80 as Tryz.keys80
shelf_lay_g SlLaysZ.n6 Ggz 6 at Tryz 79 as Tryz.sorted79
shelf_lay_g SlLaysM.n6 Slgm 6 at Tryz 125 as Tryz.sort125
theorem Tryz.sorts79(m:Nat):AnyZ.SortsIn Tryz.prog Tryz.sorted79_ren Fence.wide m :=
 ⟨fun blk off cap ss W hH hblk hsz=>callsIn_wide.2 (AnyM.slices_Sort_string Tryz.sort125 blk off cap ss W hH hblk hsz),
  fun p cap W=>callsIn_wide.2 (AnyM.slices_Sort_string_none Tryz.sort125 p cap W)⟩
theorem Tryz.maps_Keys_80(mb:Option Nat)(W:World):CallsIn Fence.wide 5 Tryz.prog 80 #[.map mb] W fun e w'=>e=.returned (.func (.func 126) #[] #[.pointer (some ⟨W.heap.size,0,none⟩)])∧w'=W.alloc (.cells #[.map mb] 107) :=
 AnyZ.keys_in Tryz.keys80 Fence.wide 5 trivial rfl mb W
set_option maxHeartbeats 1000000 in
theorem Tryz.slices_Sorted_keys_79_80{H:Type}(b nn:Nat)(D0:DataW H)(R:Value→Option (DataW H×List MemPlace))(w:World)(hown:w.ownsMap Tryz.prog 9 R b nn D0)(hmax:Maps.size D0≤maxLen)(hbytes:Maps.size D0*16≤140737488355328):
  CallsIn Fence.wide 5 Tryz.prog 79 #[.func (.func 126) #[] #[.pointer (some ⟨w.heap.size,0,none⟩)]] (w.alloc (.cells #[.map (some b)] 107)) fun e w'=>∃(v:Value) (ss:List (List UInt8)),e=.returned v∧ss.Perm (strKeys D0) ∧
   w'.ownsRow (w.alloc (.cells #[.map (some b)] 107)).heap.size 9 1 v ss.length ((ss.mergeSort (fun x y=>decide (x≤y))).map encStr)∧(v=.slice none 0 0↔ss=[])∧Below (w.alloc (.cells #[.map (some b)] 107)).heap.size (w.alloc (.cells #[.map (some b)] 107)) w':=by
 have hbl:=hown.lt
 have hseq:SeqGives Fence.wide 2 Tryz.prog 126 #[.pointer (some ⟨w.heap.size,0,none⟩)] encStr (fun ss=>ss.Perm (strKeys D0)) (Maps.size D0) (w.alloc (.cells #[.map (some b)] 107)) :=
  AnyZ.keys_gives (ρ:=Tryz.keys80_ren) { Tryz.keys80 with } Fence.wide _ trivial rfl (by omega) w.heap.size b nn D0 _ (by simp) (by simp) (by
   obtain⟨es,clock,hb,Ft,hs,hD⟩:=hown
   exact⟨es,clock,(Below.heap_alloc _ _ b hbl).trans hb,Ft,hs,hD⟩)
 exact AnyZ.sorted_in Tryz.sorted79 Fence.wide 5 trivial trivial trivial trivial rfl (by omega) (Tryz.sorts79 _) (enters_of Tryz.func125 (by kernel_rfl) rfl) 126 #[.pointer (some ⟨w.heap.size,0,none⟩)] trivial (enters_of Tryz.func126 (by kernel_rfl) rfl) _ _ hmax hbytes _ hseq
set_option maxHeartbeats 1000000 in
theorem Tryz.slices_Sorted_keys_nil_79_80(w:World):
  CallsIn Fence.wide 5 Tryz.prog 79 #[.func (.func 126) #[] #[.pointer (some ⟨w.heap.size,0,none⟩)]] (w.alloc (.cells #[.map none] 107)) fun e w'=>∃(v:Value) (ss:List (List UInt8)),e=.returned v∧ss=[] ∧
   w'.ownsRow (w.alloc (.cells #[.map none] 107)).heap.size 9 1 v ss.length ((ss.mergeSort (fun x y=>decide (x≤y))).map encStr)∧(v=.slice none 0 0↔ss=[])∧Below (w.alloc (.cells #[.map none] 107)).heap.size (w.alloc (.cells #[.map none] 107)) w':=by
 have hseq:SeqGives Fence.wide 2 Tryz.prog 126 #[.pointer (some ⟨w.heap.size,0,none⟩)] encStr (fun ss:List (List UInt8)=>ss=[]) 0 (w.alloc (.cells #[.map none] 107)) :=
  AnyZ.keys_gives_nil (ρ:=Tryz.keys80_ren) { Tryz.keys80 with } Fence.wide _ trivial rfl w.heap.size _ (by simp) (by simp)
 exact AnyZ.sorted_in Tryz.sorted79 Fence.wide 5 trivial trivial trivial trivial rfl (by omega) (Tryz.sorts79 _) (enters_of Tryz.func125 (by kernel_rfl) rfl) 126 #[.pointer (some ⟨w.heap.size,0,none⟩)] trivial (enters_of Tryz.func126 (by kernel_rfl) rfl) _ 0 (Nat.zero_le _) (by omega) _ hseq
shelf_lay_g SlLaysZ.n7 Ggz 7 at Tryz 166 as Tryz.keys166
theorem Tryz.maps_Keys_166(mb:Option Nat)(W:World):CallsIn Fence.wide 5 Tryz.prog 166 #[.map mb] W fun e w'=>e=.returned (.func (.func 198) #[] #[.pointer (some ⟨W.heap.size,0,none⟩)])∧w'=W.alloc (.cells #[.map mb] 256) :=
 AnyZ.keys_in Tryz.keys166 Fence.wide 5 trivial rfl mb W
set_option maxHeartbeats 1000000 in
theorem Tryz.slices_Sorted_keys_79_166{H:Type}(b nn:Nat)(D0:DataW H)(R:Value→Option (DataW H×List MemPlace))(w:World)(hown:w.ownsMap Tryz.prog 9 R b nn D0)(hmax:Maps.size D0≤maxLen)(hbytes:Maps.size D0*16≤140737488355328):
  CallsIn Fence.wide 5 Tryz.prog 79 #[.func (.func 198) #[] #[.pointer (some ⟨w.heap.size,0,none⟩)]] (w.alloc (.cells #[.map (some b)] 256)) fun e w'=>∃(v:Value) (ss:List (List UInt8)),e=.returned v∧ss.Perm (strKeys D0) ∧
   w'.ownsRow (w.alloc (.cells #[.map (some b)] 256)).heap.size 9 1 v ss.length ((ss.mergeSort (fun x y=>decide (x≤y))).map encStr)∧(v=.slice none 0 0↔ss=[])∧Below (w.alloc (.cells #[.map (some b)] 256)).heap.size (w.alloc (.cells #[.map (some b)] 256)) w':=by
 have hbl:=hown.lt
 have hseq:SeqGives Fence.wide 2 Tryz.prog 198 #[.pointer (some ⟨w.heap.size,0,none⟩)] encStr (fun ss=>ss.Perm (strKeys D0)) (Maps.size D0) (w.alloc (.cells #[.map (some b)] 256)) :=
  AnyZ.keys_gives (ρ:=Tryz.keys166_ren) { Tryz.keys166 with } Fence.wide _ trivial rfl (by omega) w.heap.size b nn D0 _ (by simp) (by simp) (by
   obtain⟨es,clock,hb,Ft,hs,hD⟩:=hown
   exact⟨es,clock,(Below.heap_alloc _ _ b hbl).trans hb,Ft,hs,hD⟩)
 exact AnyZ.sorted_in Tryz.sorted79 Fence.wide 5 trivial trivial trivial trivial rfl (by omega) (Tryz.sorts79 _) (enters_of Tryz.func125 (by kernel_rfl) rfl) 198 #[.pointer (some ⟨w.heap.size,0,none⟩)] trivial (enters_of Tryz.func198 (by kernel_rfl) rfl) _ _ hmax hbytes _ hseq
set_option maxHeartbeats 1000000 in
theorem Tryz.slices_Sorted_keys_nil_79_166(w:World):
  CallsIn Fence.wide 5 Tryz.prog 79 #[.func (.func 198) #[] #[.pointer (some ⟨w.heap.size,0,none⟩)]] (w.alloc (.cells #[.map none] 256)) fun e w'=>∃(v:Value) (ss:List (List UInt8)),e=.returned v∧ss=[] ∧
   w'.ownsRow (w.alloc (.cells #[.map none] 256)).heap.size 9 1 v ss.length ((ss.mergeSort (fun x y=>decide (x≤y))).map encStr)∧(v=.slice none 0 0↔ss=[])∧Below (w.alloc (.cells #[.map none] 256)).heap.size (w.alloc (.cells #[.map none] 256)) w':=by
 have hseq:SeqGives Fence.wide 2 Tryz.prog 198 #[.pointer (some ⟨w.heap.size,0,none⟩)] encStr (fun ss:List (List UInt8)=>ss=[]) 0 (w.alloc (.cells #[.map none] 256)) :=
  AnyZ.keys_gives_nil (ρ:=Tryz.keys166_ren) { Tryz.keys166 with } Fence.wide _ trivial rfl w.heap.size _ (by simp) (by simp)
 exact AnyZ.sorted_in Tryz.sorted79 Fence.wide 5 trivial trivial trivial trivial rfl (by omega) (Tryz.sorts79 _) (enters_of Tryz.func125 (by kernel_rfl) rfl) 198 #[.pointer (some ⟨w.heap.size,0,none⟩)] trivial (enters_of Tryz.func198 (by kernel_rfl) rfl) _ 0 (Nat.zero_le _) (by omega) _ hseq
end Go.Proofs
