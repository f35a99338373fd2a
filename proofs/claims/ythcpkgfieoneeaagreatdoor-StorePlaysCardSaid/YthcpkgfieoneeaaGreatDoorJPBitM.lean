/- Joined texts of one proof: what is needed of BitM. -/
import Derived.Test.YthcpkgfieoneeaaGreatDoorProg
import Derived.Test.YthcpkgfieoneeaaGreatDoorJPWRDevB
import Derived.WalkKit
import Derived.WalkSpells
import Derived.WalkLawsBesides
import Derived.Outline
set_option linter.unusedSimpArgs false
set_option linter.unusedVariables false
set_option linter.unnecessarySimpa false
set_option maxRecDepth 100000
set_option maxHeartbeats 16000000
namespace Go.Proofs.YthcpkgfieoneeaaGreatDoor
section
open Go.RowKit
theorem tinfo5:(Tryz.prog.info? 5).map (fun i=>(i.zero,i.size,i.bytes))=some (some (.int .u8 0),1,1):=by kernel_rfl
theorem make_in(n:Int)(w:World)(h1:1≤n)(h2:n≤32768):
  Calls Tryz.prog 98 #[.int .i64 n] w fun e w'=>e=.returned (.string ⟨(makeL n).toArray⟩)∧Below w.heap.size w w':=by
 obtain⟨i,hi,hz0,hz1,hz2⟩:=info_parts tinfo5
 have km:=run_make (P:=Tryz.prog) w 103 5 _ _ Tryz.underlying103 hi hz0 .i64 .i64 ((n+7) / 8) ((n+7) / 8) (by omega) (Int.le_refl _) (by rw[hz2];omega) (by omega)
 have hb:=(ByteRow.zeros w ((n+7) / 8).toNat 5).back (P:=Tryz.prog) 103 9 5 ((n+7) / 8).toNat Tryz.underlying103 Tryz.underlying5 Tryz.underlying9
 rw[List.length_replicate] at hb
 have hm:makeL n=List.replicate ((n+7) / 8).toNat 0:=by unfold makeL;rw[if_pos ⟨h1,h2⟩]
 rw[←hm] at hb
 have HM:=Lib.hid hm;clear hm
 go_enter Tryz.func98,Tryz.ntmps98
 go_wp2
 go_ret
 exact⟨rfl,(Below.refl _ _).alloc (Nat.le_refl _) _⟩
theorem make_lo(n:Int)(w:World)(h1:n<1):
  Calls Tryz.prog 98 #[.int .i64 n] w fun e w'=>e=.returned (.string ⟨(makeL n).toArray⟩)∧Below w.heap.size w w':=by
 have hm:makeL n=[]:=by unfold makeL;rw[if_neg (by omega)]
 have HM:=Lib.hid hm;clear hm
 go_enter Tryz.func98,Tryz.ntmps98
 go_wp2
 go_ret
 exact⟨by rw[HM.out];rfl,Below.refl _ _⟩
theorem make_hi(n:Int)(w:World)(h1:32768<n):
  Calls Tryz.prog 98 #[.int .i64 n] w fun e w'=>e=.returned (.string ⟨(makeL n).toArray⟩)∧Below w.heap.size w w':=by
 have hm:makeL n=[]:=by unfold makeL;rw[if_neg (by omega)]
 have HM:=Lib.hid hm;clear hm
 have h0:¬n<1:=by omega
 go_enter Tryz.func98,Tryz.ntmps98
 go_wp2
 go_ret
 exact⟨by rw[HM.out];rfl,Below.refl _ _⟩
theorem make_any(n:Int)(w:World):
  Calls Tryz.prog 98 #[.int .i64 n] w fun e w'=>e=.returned (.string ⟨(makeL n).toArray⟩)∧Below w.heap.size w w':=by
 by_cases h1:n<1
 ·exact make_lo n w h1
 ·by_cases h2:n≤32768
  ·exact make_in n w (by omega) h2
  ·exact make_hi n w (by omega)
end
end Go.Proofs.YthcpkgfieoneeaaGreatDoor
