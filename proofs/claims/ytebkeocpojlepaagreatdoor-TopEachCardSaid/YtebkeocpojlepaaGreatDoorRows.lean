/-
  NARROWER THAN 'FOR EVERY INPUT', by the rows' own cells (each row's printed sentence says how): TopEach: laid · TopTwice: laid · TopArmed: laid.
  DERIVED. THE GIVEN ROWS OF THIS SEAT. 3 by the template 'for every input the law returns true; each argument reads behind the call as it read before'; 0 by the template 'total and deterministic' (their statements: YtebkeocpojlepaaGreatDoorTotals.lean).
  GIVEN WITH THE SEED: the statements are not yours to turn. If you find one false, say at which input.
  Laid BY PROGRAM, IN A SANDBOX (cutbox-rows.mjs): the forced cells as the released guide's own fill.sh prints them over the translation 031db980f77dce8c… (all of the seat's roots in one cut). By AI agents, Wed Nov 11 2026. No macro, syntax, notation, axiom, sorry.
-/
import Derived.Test.YtebkeocpojlepaaGreatDoorChecked
import GoSem.Claim
import GoSem.ClaimJoined
import GoSem.ClaimMapViews
import Derived.JoinedTies
import Derived.KernelRfl
namespace Go.Proofs.YtebkeocpojlepaaGreatDoor
/- THE CELL 'sum', in the pinned program and in every row, IS THE sha256 OF THE DUMP (.gsa) THAT YtebkeocpojlepaaGreatDoorProg.lean LOADS. Nothing in Lean hashes anything: it is a label: what it is worth is what the hold of that sum in a sandbox is worth. -/
noncomputable def Tryz.pinned : Pinned := { name := "ytebkeocpojlepaagreatdoor", sum := "031db980f77dce8c52293d190760ff7f2271685fcd0f48f4b748635e993dc82b", checked := Tryz.checked }
namespace Rows
def none {H : Type} : Left H := { results := [], args := [] }

/- WHAT THE LISTED PACKAGE-LEVEL VARIABLES READ AS WHEN THE CALL BEGINS. Each datum BY PROGRAM (the guide's laid-datum.mjs) off the statement by which the dump's own 'gosem.cut.vars' lays the variable. In a bare row this is a premise. The card (YtebkeocpojlepaaGreatDoorCards.lean) ties it to the program's text. -/
def laid_dogwatch_pick_none {H : Type} : DataW H := .agg [.lit (.int .i64 (-1)), .lit (.int .u64 0), .lit (.int .u64 0), .lit (.int .u64 0)]

/-- 'dogwatchtop.TopEach': WHATEVER THE INPUT: true; the input reads as it did. -/
def topEachSpec : ChangeSpec := { name := "topEach", fn := fun _ => fun
  | [d1, d2, d3, d4] => { results := [.lit (.bool true)], args := [d1, d2, d3, d4] }
  | _ => none }
def topEachRow : OpenClaim := { program := "ytebkeocpojlepaagreatdoor", sum := "031db980f77dce8c52293d190760ff7f2271685fcd0f48f4b748635e993dc82b", func := "dogwatch/dogwatchtop.TopEach", spec := "topEach", inPlace := ["internal/abi.NoEscape", "internal/bytealg.MakeNoZero", "internal/bytealg.CountString", "internal/bytealg.IndexByteString", "internal/bytealg.IndexString", "math.Float64bits", "math.Float64frombits"], unfollowed := true, recurses := true, named := ["dogwatch/pick.none", "internal/bytealg.MaxLen"], apart := false, laid := [("dogwatch/pick.none", laid_dogwatch_pick_none)] }
def TopEachSaid : Prop := topEachRow.holds Tryz.pinned (OpenSpec.ofChange topEachSpec)

/-- ITS FALSE NEIGHBOUR: 'it returns false'. Refute it at one input. -/
def topEachWrong : ChangeSpec := { name := "topEach", fn := fun _ => fun
  | [d1, d2, d3, d4] => { results := [.lit (.bool false)], args := [d1, d2, d3, d4] }
  | _ => none }
def TopEachWrongFalsely : Prop := topEachRow.holds Tryz.pinned (OpenSpec.ofChange topEachWrong)

/-- 'dogwatchtop.TopTwice': WHATEVER THE INPUT: true; the input reads as it did. -/
def topTwiceSpec : ChangeSpec := { name := "topTwice", fn := fun _ => fun
  | [d1, d2, d3, d4, d5, d6] => { results := [.lit (.bool true)], args := [d1, d2, d3, d4, d5, d6] }
  | _ => none }
def topTwiceRow : OpenClaim := { program := "ytebkeocpojlepaagreatdoor", sum := "031db980f77dce8c52293d190760ff7f2271685fcd0f48f4b748635e993dc82b", func := "dogwatch/dogwatchtop.TopTwice", spec := "topTwice", inPlace := ["internal/abi.NoEscape", "internal/bytealg.MakeNoZero", "internal/bytealg.CountString", "internal/bytealg.IndexByteString", "internal/bytealg.IndexString", "math.Float64bits", "math.Float64frombits"], unfollowed := true, recurses := true, named := ["dogwatch/pick.none", "internal/bytealg.MaxLen"], apart := false, laid := [("dogwatch/pick.none", laid_dogwatch_pick_none)] }
def TopTwiceSaid : Prop := topTwiceRow.holds Tryz.pinned (OpenSpec.ofChange topTwiceSpec)

/-- ITS FALSE NEIGHBOUR: 'it returns false'. Refute it at one input. -/
def topTwiceWrong : ChangeSpec := { name := "topTwice", fn := fun _ => fun
  | [d1, d2, d3, d4, d5, d6] => { results := [.lit (.bool false)], args := [d1, d2, d3, d4, d5, d6] }
  | _ => none }
def TopTwiceWrongFalsely : Prop := topTwiceRow.holds Tryz.pinned (OpenSpec.ofChange topTwiceWrong)

/-- 'dogwatchtop.TopArmed': WHATEVER THE INPUT: true; the input reads as it did. -/
def topArmedSpec : ChangeSpec := { name := "topArmed", fn := fun _ => fun
  | [d1, d2, d3] => { results := [.lit (.bool true)], args := [d1, d2, d3] }
  | _ => none }
def topArmedRow : OpenClaim := { program := "ytebkeocpojlepaagreatdoor", sum := "031db980f77dce8c52293d190760ff7f2271685fcd0f48f4b748635e993dc82b", func := "dogwatch/dogwatchtop.TopArmed", spec := "topArmed", inPlace := ["internal/abi.NoEscape", "internal/bytealg.MakeNoZero", "internal/bytealg.CountString", "internal/bytealg.IndexByteString", "internal/bytealg.IndexString", "math.Float64bits", "math.Float64frombits"], unfollowed := true, recurses := true, named := ["dogwatch/pick.none", "internal/bytealg.MaxLen"], apart := false, laid := [("dogwatch/pick.none", laid_dogwatch_pick_none)] }
def TopArmedSaid : Prop := topArmedRow.holds Tryz.pinned (OpenSpec.ofChange topArmedSpec)

/-- ITS FALSE NEIGHBOUR: 'it returns false'. Refute it at one input. -/
def topArmedWrong : ChangeSpec := { name := "topArmed", fn := fun _ => fun
  | [d1, d2, d3] => { results := [.lit (.bool false)], args := [d1, d2, d3] }
  | _ => none }
def TopArmedWrongFalsely : Prop := topArmedRow.holds Tryz.pinned (OpenSpec.ofChange topArmedWrong)

/- THE SECOND FORM. 'bulk': how many values and letters a reading holds, each counted each time it is reached (what is shared counts as often as it is met; a slice's spare places count too). A statement '..UptoSaid' is the law's where the arguments, and the package variables that the reading takes, are together of bulk at most 1048576: NARROWER than '..Said'. Prove '..Said' where nothing that the law and all that it calls make is longer than what came in: it says more and counts as full. Else prove '..UptoSaid'. A law counts once. -/
mutual
def uptoBulk {H : Type} : DataW H → Nat
  | .lit (.string bytes) => bytes.length + 1
  | .lit _ => 1
  | .nil => 1
  | .ptr d => uptoBulk d + 1
  | .slice elems spare => uptoBulkAll elems + uptoBulkAll spare + 1
  | .agg parts => uptoBulkAll parts + 1
  | .iface _ d => uptoBulk d + 1
  | .map entries => uptoBulkEntries entries + 1
  | .held _ => 1
def uptoBulkAll {H : Type} : List (DataW H) → Nat
  | [] => 0
  | d :: r => uptoBulk d + uptoBulkAll r
def uptoBulkEntries {H : Type} : List (Lit × DataW H) → Nat
  | [] => 0
  | x :: r => uptoBulkEntry x + uptoBulkEntries r
def uptoBulkEntry {H : Type} : Lit × DataW H → Nat
  | (.string bytes, d) => bytes.length + uptoBulk d + 1
  | (_, d) => uptoBulk d + 1
 end
def uptoSmall : (H : Type) → List (DataW H) → Bool := fun _ ds => decide (uptoBulkAll ds ≤ 1048576)
def OpenSpec.upto (s : _root_.Go.ChangeSpec) : _root_.Go.OpenSpec := { _root_.Go.OpenSpec.ofChange s with cond := some uptoSmall }

/-- 'dogwatchtop.TopEach', WHERE WHAT IT READS IS OF BULK AT MOST 1048576: true; the input reads as it did. -/
def topEachUptoRow : OpenClaim := { program := "ytebkeocpojlepaagreatdoor", sum := "031db980f77dce8c52293d190760ff7f2271685fcd0f48f4b748635e993dc82b", func := "dogwatch/dogwatchtop.TopEach", spec := "topEach", inPlace := ["internal/abi.NoEscape", "internal/bytealg.MakeNoZero", "internal/bytealg.CountString", "internal/bytealg.IndexByteString", "internal/bytealg.IndexString", "math.Float64bits", "math.Float64frombits"], unfollowed := true, recurses := true, named := ["dogwatch/pick.none", "internal/bytealg.MaxLen"], apart := false, laid := [("dogwatch/pick.none", laid_dogwatch_pick_none)], narrowed := true }
def TopEachUptoSaid : Prop := topEachUptoRow.holds Tryz.pinned (OpenSpec.upto topEachSpec)

/-- 'dogwatchtop.TopTwice', WHERE WHAT IT READS IS OF BULK AT MOST 1048576: true; the input reads as it did. -/
def topTwiceUptoRow : OpenClaim := { program := "ytebkeocpojlepaagreatdoor", sum := "031db980f77dce8c52293d190760ff7f2271685fcd0f48f4b748635e993dc82b", func := "dogwatch/dogwatchtop.TopTwice", spec := "topTwice", inPlace := ["internal/abi.NoEscape", "internal/bytealg.MakeNoZero", "internal/bytealg.CountString", "internal/bytealg.IndexByteString", "internal/bytealg.IndexString", "math.Float64bits", "math.Float64frombits"], unfollowed := true, recurses := true, named := ["dogwatch/pick.none", "internal/bytealg.MaxLen"], apart := false, laid := [("dogwatch/pick.none", laid_dogwatch_pick_none)], narrowed := true }
def TopTwiceUptoSaid : Prop := topTwiceUptoRow.holds Tryz.pinned (OpenSpec.upto topTwiceSpec)

/-- 'dogwatchtop.TopArmed', WHERE WHAT IT READS IS OF BULK AT MOST 1048576: true; the input reads as it did. -/
def topArmedUptoRow : OpenClaim := { program := "ytebkeocpojlepaagreatdoor", sum := "031db980f77dce8c52293d190760ff7f2271685fcd0f48f4b748635e993dc82b", func := "dogwatch/dogwatchtop.TopArmed", spec := "topArmed", inPlace := ["internal/abi.NoEscape", "internal/bytealg.MakeNoZero", "internal/bytealg.CountString", "internal/bytealg.IndexByteString", "internal/bytealg.IndexString", "math.Float64bits", "math.Float64frombits"], unfollowed := true, recurses := true, named := ["dogwatch/pick.none", "internal/bytealg.MaxLen"], apart := false, laid := [("dogwatch/pick.none", laid_dogwatch_pick_none)], narrowed := true }
def TopArmedUptoSaid : Prop := topArmedUptoRow.holds Tryz.pinned (OpenSpec.upto topArmedSpec)

end Rows
end Go.Proofs.YtebkeocpojlepaaGreatDoor
