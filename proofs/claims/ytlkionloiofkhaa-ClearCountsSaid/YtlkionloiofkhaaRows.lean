/-
  No cell of these rows narrows 'for every input' (looked for: loops, veiled, ifaces, maps, wideKeys, modest, calm, conditions, laid).
  DERIVED. THE GIVEN ROWS OF THIS SEAT. 4 by the template 'for every input the law returns true; each argument reads behind the call as it read before'; 0 by the template 'total and deterministic' (their statements: YtlkionloiofkhaaTotals.lean).
  GIVEN WITH THE SEED: the statements are not yours to turn. If you find one false, say at which input.
  Laid BY PROGRAM, IN A SANDBOX (cutbox-rows.mjs): the forced cells as the released guide's own fill.sh prints them over the translation e92540776e05fe02… (all of the seat's roots in one cut). By AI agents, Wed Nov 11 2026. No macro, syntax, notation, axiom, sorry.
-/
import Derived.Test.YtlkionloiofkhaaChecked
import GoSem.Claim
import GoSem.ClaimJoined
import GoSem.ClaimMapViews
import Derived.JoinedTies
import Derived.KernelRfl
namespace Go.Proofs.Ytlkionloiofkhaa
/- THE CELL 'sum', in the pinned program and in every row, IS THE sha256 OF THE DUMP (.gsa) THAT YtlkionloiofkhaaProg.lean LOADS. Nothing in Lean hashes anything: it is a label: what it is worth is what the hold of that sum in a sandbox is worth. -/
noncomputable def Try.pinned : Pinned := { name := "ytlkionloiofkhaa", sum := "e92540776e05fe023ef3f22ffe90656a0b86f6d68191b3217d32ad2bcd136d12", checked := Try.checked }
namespace Rows
def none {H : Type} : Left H := { results := [], args := [] }

/-- 'dogwatchlaw01.ClearMay': WHATEVER THE INPUT: true; the input reads as it did. -/
def clearMaySpec : ChangeSpec := { name := "clearMay", fn := fun _ => fun
  | [d1, d2, d3, d4] => { results := [.lit (.bool true)], args := [d1, d2, d3, d4] }
  | _ => none }
def clearMayRow : OpenClaim := { program := "ytlkionloiofkhaa", sum := "e92540776e05fe023ef3f22ffe90656a0b86f6d68191b3217d32ad2bcd136d12", func := "dogwatch/dogwatchlaw01.ClearMay", spec := "clearMay", unfollowed := true, recurses := true, apart := false }
def ClearMaySaid : Prop := clearMayRow.holds Try.pinned (OpenSpec.ofChange clearMaySpec)

/-- ITS FALSE NEIGHBOUR: 'it returns false'. Refute it at one input. -/
def clearMayWrong : ChangeSpec := { name := "clearMay", fn := fun _ => fun
  | [d1, d2, d3, d4] => { results := [.lit (.bool false)], args := [d1, d2, d3, d4] }
  | _ => none }
def ClearMayWrongFalsely : Prop := clearMayRow.holds Try.pinned (OpenSpec.ofChange clearMayWrong)

/-- 'dogwatchlaw01.ClearEnds': WHATEVER THE INPUT: true; the input reads as it did. -/
def clearEndsSpec : ChangeSpec := { name := "clearEnds", fn := fun _ => fun
  | [d1, d2] => { results := [.lit (.bool true)], args := [d1, d2] }
  | _ => none }
def clearEndsRow : OpenClaim := { program := "ytlkionloiofkhaa", sum := "e92540776e05fe023ef3f22ffe90656a0b86f6d68191b3217d32ad2bcd136d12", func := "dogwatch/dogwatchlaw01.ClearEnds", spec := "clearEnds", unfollowed := true, recurses := true, apart := false }
def ClearEndsSaid : Prop := clearEndsRow.holds Try.pinned (OpenSpec.ofChange clearEndsSpec)

/-- ITS FALSE NEIGHBOUR: 'it returns false'. Refute it at one input. -/
def clearEndsWrong : ChangeSpec := { name := "clearEnds", fn := fun _ => fun
  | [d1, d2] => { results := [.lit (.bool false)], args := [d1, d2] }
  | _ => none }
def ClearEndsWrongFalsely : Prop := clearEndsRow.holds Try.pinned (OpenSpec.ofChange clearEndsWrong)

/-- 'dogwatchlaw01.ClearTwice': WHATEVER THE INPUT: true; the input reads as it did. -/
def clearTwiceSpec : ChangeSpec := { name := "clearTwice", fn := fun _ => fun
  | [d1, d2, d3, d4] => { results := [.lit (.bool true)], args := [d1, d2, d3, d4] }
  | _ => none }
def clearTwiceRow : OpenClaim := { program := "ytlkionloiofkhaa", sum := "e92540776e05fe023ef3f22ffe90656a0b86f6d68191b3217d32ad2bcd136d12", func := "dogwatch/dogwatchlaw01.ClearTwice", spec := "clearTwice", unfollowed := true, recurses := true, apart := false }
def ClearTwiceSaid : Prop := clearTwiceRow.holds Try.pinned (OpenSpec.ofChange clearTwiceSpec)

/-- ITS FALSE NEIGHBOUR: 'it returns false'. Refute it at one input. -/
def clearTwiceWrong : ChangeSpec := { name := "clearTwice", fn := fun _ => fun
  | [d1, d2, d3, d4] => { results := [.lit (.bool false)], args := [d1, d2, d3, d4] }
  | _ => none }
def ClearTwiceWrongFalsely : Prop := clearTwiceRow.holds Try.pinned (OpenSpec.ofChange clearTwiceWrong)

/-- 'dogwatchlaw01.ClearCounts': WHATEVER THE INPUT: true; the input reads as it did. -/
def clearCountsSpec : ChangeSpec := { name := "clearCounts", fn := fun _ => fun
  | [d1, d2, d3] => { results := [.lit (.bool true)], args := [d1, d2, d3] }
  | _ => none }
def clearCountsRow : OpenClaim := { program := "ytlkionloiofkhaa", sum := "e92540776e05fe023ef3f22ffe90656a0b86f6d68191b3217d32ad2bcd136d12", func := "dogwatch/dogwatchlaw01.ClearCounts", spec := "clearCounts", unfollowed := true, recurses := true, apart := false }
def ClearCountsSaid : Prop := clearCountsRow.holds Try.pinned (OpenSpec.ofChange clearCountsSpec)

/-- ITS FALSE NEIGHBOUR: 'it returns false'. Refute it at one input. -/
def clearCountsWrong : ChangeSpec := { name := "clearCounts", fn := fun _ => fun
  | [d1, d2, d3] => { results := [.lit (.bool false)], args := [d1, d2, d3] }
  | _ => none }
def ClearCountsWrongFalsely : Prop := clearCountsRow.holds Try.pinned (OpenSpec.ofChange clearCountsWrong)

/- THE SECOND FORM. 'bulk': how many values and letters a reading holds, each counted each time it is reached (what is shared counts as often as it is met; a slice's spare places count too). A statement '..UptoSaid' is the law's where the arguments, and the package variables that the reading takes, are together of bulk at most 1048576: NARROWER than '..Said'. Prove '..Said' where nothing that the law and all that it calls make is longer than what came in: it says more and counts as full. Else prove '..UptoSaid'. A law counts once. -/
mutual
def uptoBulk {H : Type} : DataW H → Nat
  | .lit (.string bytes) => bytes.length + 1
  | .lit _ => 1
  | .nil => 1
  | .ptr d => uptoBulk d + 1
  | .slice elems spare => uptoBulkAll elems + uptoBulkAll spare + 1
  | .agg parts => uptoBulkAll parts + 1
  | .iface _ d => uptoBulk d + 1
  | .map entries => uptoBulkEntries entries + 1
  | .held _ => 1
def uptoBulkAll {H : Type} : List (DataW H) → Nat
  | [] => 0
  | d :: r => uptoBulk d + uptoBulkAll r
def uptoBulkEntries {H : Type} : List (Lit × DataW H) → Nat
  | [] => 0
  | x :: r => uptoBulkEntry x + uptoBulkEntries r
def uptoBulkEntry {H : Type} : Lit × DataW H → Nat
  | (.string bytes, d) => bytes.length + uptoBulk d + 1
  | (_, d) => uptoBulk d + 1
 end
def uptoSmall : (H : Type) → List (DataW H) → Bool := fun _ ds => decide (uptoBulkAll ds ≤ 1048576)
def OpenSpec.upto (s : _root_.Go.ChangeSpec) : _root_.Go.OpenSpec := { _root_.Go.OpenSpec.ofChange s with cond := some uptoSmall }

/-- 'dogwatchlaw01.ClearMay', WHERE WHAT IT READS IS OF BULK AT MOST 1048576: true; the input reads as it did. -/
def clearMayUptoRow : OpenClaim := { program := "ytlkionloiofkhaa", sum := "e92540776e05fe023ef3f22ffe90656a0b86f6d68191b3217d32ad2bcd136d12", func := "dogwatch/dogwatchlaw01.ClearMay", spec := "clearMay", unfollowed := true, recurses := true, apart := false, narrowed := true }
def ClearMayUptoSaid : Prop := clearMayUptoRow.holds Try.pinned (OpenSpec.upto clearMaySpec)

/-- 'dogwatchlaw01.ClearEnds', WHERE WHAT IT READS IS OF BULK AT MOST 1048576: true; the input reads as it did. -/
def clearEndsUptoRow : OpenClaim := { program := "ytlkionloiofkhaa", sum := "e92540776e05fe023ef3f22ffe90656a0b86f6d68191b3217d32ad2bcd136d12", func := "dogwatch/dogwatchlaw01.ClearEnds", spec := "clearEnds", unfollowed := true, recurses := true, apart := false, narrowed := true }
def ClearEndsUptoSaid : Prop := clearEndsUptoRow.holds Try.pinned (OpenSpec.upto clearEndsSpec)

/-- 'dogwatchlaw01.ClearTwice', WHERE WHAT IT READS IS OF BULK AT MOST 1048576: true; the input reads as it did. -/
def clearTwiceUptoRow : OpenClaim := { program := "ytlkionloiofkhaa", sum := "e92540776e05fe023ef3f22ffe90656a0b86f6d68191b3217d32ad2bcd136d12", func := "dogwatch/dogwatchlaw01.ClearTwice", spec := "clearTwice", unfollowed := true, recurses := true, apart := false, narrowed := true }
def ClearTwiceUptoSaid : Prop := clearTwiceUptoRow.holds Try.pinned (OpenSpec.upto clearTwiceSpec)

/-- 'dogwatchlaw01.ClearCounts', WHERE WHAT IT READS IS OF BULK AT MOST 1048576: true; the input reads as it did. -/
def clearCountsUptoRow : OpenClaim := { program := "ytlkionloiofkhaa", sum := "e92540776e05fe023ef3f22ffe90656a0b86f6d68191b3217d32ad2bcd136d12", func := "dogwatch/dogwatchlaw01.ClearCounts", spec := "clearCounts", unfollowed := true, recurses := true, apart := false, narrowed := true }
def ClearCountsUptoSaid : Prop := clearCountsUptoRow.holds Try.pinned (OpenSpec.upto clearCountsSpec)

end Rows
end Go.Proofs.Ytlkionloiofkhaa
