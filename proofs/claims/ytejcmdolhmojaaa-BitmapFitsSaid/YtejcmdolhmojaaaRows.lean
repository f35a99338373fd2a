/-
  No cell of these rows narrows 'for every input' (looked for: loops, veiled, ifaces, maps, wideKeys, modest, calm, conditions, laid).
  DERIVED. THE GIVEN ROWS OF THIS SEAT. 6 by the template 'for every input the law returns true; each argument reads behind the call as it read before'; 0 by the template 'total and deterministic' (their statements: YtejcmdolhmojaaaTotals.lean).
  GIVEN WITH THE SEED: the statements are not yours to turn. If you find one false, say at which input.
  Laid BY PROGRAM, IN A SANDBOX (cutbox-rows.mjs): the forced cells as the released guide's own fill.sh prints them over the translation cbdff12179a36942… (all of the seat's roots in one cut). By AI agents, Wed Nov 11 2026. No macro, syntax, notation, axiom, sorry.
-/
import Derived.Test.YtejcmdolhmojaaaChecked
import GoSem.Claim
import GoSem.ClaimJoined
import GoSem.ClaimMapViews
import Derived.JoinedTies
import Derived.KernelRfl
namespace Go.Proofs.Ytejcmdolhmojaaa
/- THE CELL 'sum', in the pinned program and in every row, IS THE sha256 OF THE DUMP (.gsa) THAT YtejcmdolhmojaaaProg.lean LOADS. Nothing in Lean hashes anything: it is a label: what it is worth is what the hold of that sum in a sandbox is worth. -/
noncomputable def Try.pinned : Pinned := { name := "ytejcmdolhmojaaa", sum := "cbdff12179a3694293cc74ca270bb47ab4afd71ff9bf305d5af65d00f7325632", checked := Try.checked }
namespace Rows
def none {H : Type} : Left H := { results := [], args := [] }

/-- 'codexlaw5.BitmapBits': WHATEVER THE INPUT: true; the input reads as it did. -/
def bitmapBitsSpec : ChangeSpec := { name := "bitmapBits", fn := fun _ => fun
  | [d1, d2, d3, d4, d5, d6] => { results := [.lit (.bool true)], args := [d1, d2, d3, d4, d5, d6] }
  | _ => none }
def bitmapBitsRow : OpenClaim := { program := "ytejcmdolhmojaaa", sum := "cbdff12179a3694293cc74ca270bb47ab4afd71ff9bf305d5af65d00f7325632", func := "codex/codexlaw5.BitmapBits", spec := "bitmapBits", unfollowed := true, recurses := true, apart := false }
def BitmapBitsSaid : Prop := bitmapBitsRow.holds Try.pinned (OpenSpec.ofChange bitmapBitsSpec)

/-- ITS FALSE NEIGHBOUR: 'it returns false'. Refute it at one input. -/
def bitmapBitsWrong : ChangeSpec := { name := "bitmapBits", fn := fun _ => fun
  | [d1, d2, d3, d4, d5, d6] => { results := [.lit (.bool false)], args := [d1, d2, d3, d4, d5, d6] }
  | _ => none }
def BitmapBitsWrongFalsely : Prop := bitmapBitsRow.holds Try.pinned (OpenSpec.ofChange bitmapBitsWrong)

/-- 'codexlaw5.BitmapFits': WHATEVER THE INPUT: true; the input reads as it did. -/
def bitmapFitsSpec : ChangeSpec := { name := "bitmapFits", fn := fun _ => fun
  | [d1, d2, d3] => { results := [.lit (.bool true)], args := [d1, d2, d3] }
  | _ => none }
def bitmapFitsRow : OpenClaim := { program := "ytejcmdolhmojaaa", sum := "cbdff12179a3694293cc74ca270bb47ab4afd71ff9bf305d5af65d00f7325632", func := "codex/codexlaw5.BitmapFits", spec := "bitmapFits", unfollowed := true, recurses := true, apart := false }
def BitmapFitsSaid : Prop := bitmapFitsRow.holds Try.pinned (OpenSpec.ofChange bitmapFitsSpec)

/-- ITS FALSE NEIGHBOUR: 'it returns false'. Refute it at one input. -/
def bitmapFitsWrong : ChangeSpec := { name := "bitmapFits", fn := fun _ => fun
  | [d1, d2, d3] => { results := [.lit (.bool false)], args := [d1, d2, d3] }
  | _ => none }
def BitmapFitsWrongFalsely : Prop := bitmapFitsRow.holds Try.pinned (OpenSpec.ofChange bitmapFitsWrong)

/-- 'codexlaw5.BitmapTakes': WHATEVER THE INPUT: true; the input reads as it did. -/
def bitmapTakesSpec : ChangeSpec := { name := "bitmapTakes", fn := fun _ => fun
  | [d1, d2, d3] => { results := [.lit (.bool true)], args := [d1, d2, d3] }
  | _ => none }
def bitmapTakesRow : OpenClaim := { program := "ytejcmdolhmojaaa", sum := "cbdff12179a3694293cc74ca270bb47ab4afd71ff9bf305d5af65d00f7325632", func := "codex/codexlaw5.BitmapTakes", spec := "bitmapTakes", unfollowed := true, recurses := true, apart := false }
def BitmapTakesSaid : Prop := bitmapTakesRow.holds Try.pinned (OpenSpec.ofChange bitmapTakesSpec)

/-- ITS FALSE NEIGHBOUR: 'it returns false'. Refute it at one input. -/
def bitmapTakesWrong : ChangeSpec := { name := "bitmapTakes", fn := fun _ => fun
  | [d1, d2, d3] => { results := [.lit (.bool false)], args := [d1, d2, d3] }
  | _ => none }
def BitmapTakesWrongFalsely : Prop := bitmapTakesRow.holds Try.pinned (OpenSpec.ofChange bitmapTakesWrong)

/-- 'codexlaw5.BitmapRuns': WHATEVER THE INPUT: true; the input reads as it did. -/
def bitmapRunsSpec : ChangeSpec := { name := "bitmapRuns", fn := fun _ => fun
  | [d1, d2] => { results := [.lit (.bool true)], args := [d1, d2] }
  | _ => none }
def bitmapRunsRow : OpenClaim := { program := "ytejcmdolhmojaaa", sum := "cbdff12179a3694293cc74ca270bb47ab4afd71ff9bf305d5af65d00f7325632", func := "codex/codexlaw5.BitmapRuns", spec := "bitmapRuns", unfollowed := true, recurses := true, apart := false }
def BitmapRunsSaid : Prop := bitmapRunsRow.holds Try.pinned (OpenSpec.ofChange bitmapRunsSpec)

/-- ITS FALSE NEIGHBOUR: 'it returns false'. Refute it at one input. -/
def bitmapRunsWrong : ChangeSpec := { name := "bitmapRuns", fn := fun _ => fun
  | [d1, d2] => { results := [.lit (.bool false)], args := [d1, d2] }
  | _ => none }
def BitmapRunsWrongFalsely : Prop := bitmapRunsRow.holds Try.pinned (OpenSpec.ofChange bitmapRunsWrong)

/-- 'codexlaw5.BitmapOthers': WHATEVER THE INPUT: true; the input reads as it did. -/
def bitmapOthersSpec : ChangeSpec := { name := "bitmapOthers", fn := fun _ => fun
  | [d1, d2, d3, d4] => { results := [.lit (.bool true)], args := [d1, d2, d3, d4] }
  | _ => none }
def bitmapOthersRow : OpenClaim := { program := "ytejcmdolhmojaaa", sum := "cbdff12179a3694293cc74ca270bb47ab4afd71ff9bf305d5af65d00f7325632", func := "codex/codexlaw5.BitmapOthers", spec := "bitmapOthers", unfollowed := true, recurses := true, apart := false }
def BitmapOthersSaid : Prop := bitmapOthersRow.holds Try.pinned (OpenSpec.ofChange bitmapOthersSpec)

/-- ITS FALSE NEIGHBOUR: 'it returns false'. Refute it at one input. -/
def bitmapOthersWrong : ChangeSpec := { name := "bitmapOthers", fn := fun _ => fun
  | [d1, d2, d3, d4] => { results := [.lit (.bool false)], args := [d1, d2, d3, d4] }
  | _ => none }
def BitmapOthersWrongFalsely : Prop := bitmapOthersRow.holds Try.pinned (OpenSpec.ofChange bitmapOthersWrong)

/-- 'codexlaw5.BitmapCounts': WHATEVER THE INPUT: true; the input reads as it did. -/
def bitmapCountsSpec : ChangeSpec := { name := "bitmapCounts", fn := fun _ => fun
  | [d1, d2, d3] => { results := [.lit (.bool true)], args := [d1, d2, d3] }
  | _ => none }
def bitmapCountsRow : OpenClaim := { program := "ytejcmdolhmojaaa", sum := "cbdff12179a3694293cc74ca270bb47ab4afd71ff9bf305d5af65d00f7325632", func := "codex/codexlaw5.BitmapCounts", spec := "bitmapCounts", unfollowed := true, recurses := true, apart := false }
def BitmapCountsSaid : Prop := bitmapCountsRow.holds Try.pinned (OpenSpec.ofChange bitmapCountsSpec)

/-- ITS FALSE NEIGHBOUR: 'it returns false'. Refute it at one input. -/
def bitmapCountsWrong : ChangeSpec := { name := "bitmapCounts", fn := fun _ => fun
  | [d1, d2, d3] => { results := [.lit (.bool false)], args := [d1, d2, d3] }
  | _ => none }
def BitmapCountsWrongFalsely : Prop := bitmapCountsRow.holds Try.pinned (OpenSpec.ofChange bitmapCountsWrong)

/- THE SECOND FORM. 'bulk': how many values and letters a reading holds, each counted each time it is reached (what is shared counts as often as it is met; a slice's spare places count too). A statement '..UptoSaid' is the law's where the arguments, and the package variables that the reading takes, are together of bulk at most 1048576: NARROWER than '..Said'. Prove '..Said' where nothing that the law and all that it calls make is longer than what came in: it says more and counts as full. Else prove '..UptoSaid'. A law counts once. -/
mutual
def uptoBulk {H : Type} : DataW H → Nat
  | .lit (.string bytes) => bytes.length + 1
  | .lit _ => 1
  | .nil => 1
  | .ptr d => uptoBulk d + 1
  | .slice elems spare => uptoBulkAll elems + uptoBulkAll spare + 1
  | .agg parts => uptoBulkAll parts + 1
  | .iface _ d => uptoBulk d + 1
  | .map entries => uptoBulkEntries entries + 1
  | .held _ => 1
def uptoBulkAll {H : Type} : List (DataW H) → Nat
  | [] => 0
  | d :: r => uptoBulk d + uptoBulkAll r
def uptoBulkEntries {H : Type} : List (Lit × DataW H) → Nat
  | [] => 0
  | x :: r => uptoBulkEntry x + uptoBulkEntries r
def uptoBulkEntry {H : Type} : Lit × DataW H → Nat
  | (.string bytes, d) => bytes.length + uptoBulk d + 1
  | (_, d) => uptoBulk d + 1
 end
def uptoSmall : (H : Type) → List (DataW H) → Bool := fun _ ds => decide (uptoBulkAll ds ≤ 1048576)
def OpenSpec.upto (s : _root_.Go.ChangeSpec) : _root_.Go.OpenSpec := { _root_.Go.OpenSpec.ofChange s with cond := some uptoSmall }

/-- 'codexlaw5.BitmapBits', WHERE WHAT IT READS IS OF BULK AT MOST 1048576: true; the input reads as it did. -/
def bitmapBitsUptoRow : OpenClaim := { program := "ytejcmdolhmojaaa", sum := "cbdff12179a3694293cc74ca270bb47ab4afd71ff9bf305d5af65d00f7325632", func := "codex/codexlaw5.BitmapBits", spec := "bitmapBits", unfollowed := true, recurses := true, apart := false, narrowed := true }
def BitmapBitsUptoSaid : Prop := bitmapBitsUptoRow.holds Try.pinned (OpenSpec.upto bitmapBitsSpec)

/-- 'codexlaw5.BitmapFits', WHERE WHAT IT READS IS OF BULK AT MOST 1048576: true; the input reads as it did. -/
def bitmapFitsUptoRow : OpenClaim := { program := "ytejcmdolhmojaaa", sum := "cbdff12179a3694293cc74ca270bb47ab4afd71ff9bf305d5af65d00f7325632", func := "codex/codexlaw5.BitmapFits", spec := "bitmapFits", unfollowed := true, recurses := true, apart := false, narrowed := true }
def BitmapFitsUptoSaid : Prop := bitmapFitsUptoRow.holds Try.pinned (OpenSpec.upto bitmapFitsSpec)

/-- 'codexlaw5.BitmapTakes', WHERE WHAT IT READS IS OF BULK AT MOST 1048576: true; the input reads as it did. -/
def bitmapTakesUptoRow : OpenClaim := { program := "ytejcmdolhmojaaa", sum := "cbdff12179a3694293cc74ca270bb47ab4afd71ff9bf305d5af65d00f7325632", func := "codex/codexlaw5.BitmapTakes", spec := "bitmapTakes", unfollowed := true, recurses := true, apart := false, narrowed := true }
def BitmapTakesUptoSaid : Prop := bitmapTakesUptoRow.holds Try.pinned (OpenSpec.upto bitmapTakesSpec)

/-- 'codexlaw5.BitmapRuns', WHERE WHAT IT READS IS OF BULK AT MOST 1048576: true; the input reads as it did. -/
def bitmapRunsUptoRow : OpenClaim := { program := "ytejcmdolhmojaaa", sum := "cbdff12179a3694293cc74ca270bb47ab4afd71ff9bf305d5af65d00f7325632", func := "codex/codexlaw5.BitmapRuns", spec := "bitmapRuns", unfollowed := true, recurses := true, apart := false, narrowed := true }
def BitmapRunsUptoSaid : Prop := bitmapRunsUptoRow.holds Try.pinned (OpenSpec.upto bitmapRunsSpec)

/-- 'codexlaw5.BitmapOthers', WHERE WHAT IT READS IS OF BULK AT MOST 1048576: true; the input reads as it did. -/
def bitmapOthersUptoRow : OpenClaim := { program := "ytejcmdolhmojaaa", sum := "cbdff12179a3694293cc74ca270bb47ab4afd71ff9bf305d5af65d00f7325632", func := "codex/codexlaw5.BitmapOthers", spec := "bitmapOthers", unfollowed := true, recurses := true, apart := false, narrowed := true }
def BitmapOthersUptoSaid : Prop := bitmapOthersUptoRow.holds Try.pinned (OpenSpec.upto bitmapOthersSpec)

/-- 'codexlaw5.BitmapCounts', WHERE WHAT IT READS IS OF BULK AT MOST 1048576: true; the input reads as it did. -/
def bitmapCountsUptoRow : OpenClaim := { program := "ytejcmdolhmojaaa", sum := "cbdff12179a3694293cc74ca270bb47ab4afd71ff9bf305d5af65d00f7325632", func := "codex/codexlaw5.BitmapCounts", spec := "bitmapCounts", unfollowed := true, recurses := true, apart := false, narrowed := true }
def BitmapCountsUptoSaid : Prop := bitmapCountsUptoRow.holds Try.pinned (OpenSpec.upto bitmapCountsSpec)

end Rows
end Go.Proofs.Ytejcmdolhmojaaa
