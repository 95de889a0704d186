/-
  No cell of these rows narrows 'for every input' (looked for: loops, veiled, ifaces, maps, wideKeys, modest, calm, conditions, laid).
  DERIVED. THE GIVEN ROWS OF THIS SEAT. 5 by the template 'for every input the law returns true; each argument reads behind the call as it read before'; 0 by the template 'total and deterministic' (their statements: YtdgdhogbdiofbaaTotals.lean).
  GIVEN WITH THE SEED: the statements are not yours to turn. If you find one false, say at which input.
  Laid BY PROGRAM, IN A SANDBOX (cutbox-rows.mjs): the forced cells as the released guide's own fill.sh prints them over the translation 6b7b004827faa6a3… (all of the seat's roots in one cut). By AI agents, Wed Nov 11 2026. No macro, syntax, notation, axiom, sorry.
-/
import Derived.Test.YtdgdhogbdiofbaaChecked
import GoSem.Claim
import GoSem.ClaimJoined
import GoSem.ClaimMapViews
import Derived.JoinedTies
import Derived.KernelRfl
namespace Go.Proofs.Ytdgdhogbdiofbaa
/- THE CELL 'sum', in the pinned program and in every row, IS THE sha256 OF THE DUMP (.gsa) THAT YtdgdhogbdiofbaaProg.lean LOADS. Nothing in Lean hashes anything: it is a label: what it is worth is what the hold of that sum in a sandbox is worth. -/
noncomputable def Try.pinned : Pinned := { name := "ytdgdhogbdiofbaa", sum := "6b7b004827faa6a38ed3d39976a7dfe46a8f93613aabe299a7a25cb6def1df3e", checked := Try.checked }
namespace Rows
def none {H : Type} : Left H := { results := [], args := [] }

/-- 'dogwatchlaw02.CrcBurst': WHATEVER THE INPUT: true; the input reads as it did. -/
def crcBurstSpec : ChangeSpec := { name := "crcBurst", fn := fun _ => fun
  | [d1, d2, d3, d4, d5, d6] => { results := [.lit (.bool true)], args := [d1, d2, d3, d4, d5, d6] }
  | _ => none }
def crcBurstRow : OpenClaim := { program := "ytdgdhogbdiofbaa", sum := "6b7b004827faa6a38ed3d39976a7dfe46a8f93613aabe299a7a25cb6def1df3e", func := "dogwatch/dogwatchlaw02.CrcBurst", spec := "crcBurst", unfollowed := true, recurses := true, apart := false }
def CrcBurstSaid : Prop := crcBurstRow.holds Try.pinned (OpenSpec.ofChange crcBurstSpec)

/-- ITS FALSE NEIGHBOUR: 'it returns false'. Refute it at one input. -/
def crcBurstWrong : ChangeSpec := { name := "crcBurst", fn := fun _ => fun
  | [d1, d2, d3, d4, d5, d6] => { results := [.lit (.bool false)], args := [d1, d2, d3, d4, d5, d6] }
  | _ => none }
def CrcBurstWrongFalsely : Prop := crcBurstRow.holds Try.pinned (OpenSpec.ofChange crcBurstWrong)

/-- 'dogwatchlaw02.CrcTurns': WHATEVER THE INPUT: true; the input reads as it did. -/
def crcTurnsSpec : ChangeSpec := { name := "crcTurns", fn := fun _ => fun
  | [d1, d2, d3] => { results := [.lit (.bool true)], args := [d1, d2, d3] }
  | _ => none }
def crcTurnsRow : OpenClaim := { program := "ytdgdhogbdiofbaa", sum := "6b7b004827faa6a38ed3d39976a7dfe46a8f93613aabe299a7a25cb6def1df3e", func := "dogwatch/dogwatchlaw02.CrcTurns", spec := "crcTurns", unfollowed := true, recurses := true, apart := false }
def CrcTurnsSaid : Prop := crcTurnsRow.holds Try.pinned (OpenSpec.ofChange crcTurnsSpec)

/-- ITS FALSE NEIGHBOUR: 'it returns false'. Refute it at one input. -/
def crcTurnsWrong : ChangeSpec := { name := "crcTurns", fn := fun _ => fun
  | [d1, d2, d3] => { results := [.lit (.bool false)], args := [d1, d2, d3] }
  | _ => none }
def CrcTurnsWrongFalsely : Prop := crcTurnsRow.holds Try.pinned (OpenSpec.ofChange crcTurnsWrong)

/-- 'dogwatchlaw02.CrcLast': WHATEVER THE INPUT: true; the input reads as it did. -/
def crcLastSpec : ChangeSpec := { name := "crcLast", fn := fun _ => fun
  | [d1, d2, d3] => { results := [.lit (.bool true)], args := [d1, d2, d3] }
  | _ => none }
def crcLastRow : OpenClaim := { program := "ytdgdhogbdiofbaa", sum := "6b7b004827faa6a38ed3d39976a7dfe46a8f93613aabe299a7a25cb6def1df3e", func := "dogwatch/dogwatchlaw02.CrcLast", spec := "crcLast", unfollowed := true, recurses := true, apart := false }
def CrcLastSaid : Prop := crcLastRow.holds Try.pinned (OpenSpec.ofChange crcLastSpec)

/-- ITS FALSE NEIGHBOUR: 'it returns false'. Refute it at one input. -/
def crcLastWrong : ChangeSpec := { name := "crcLast", fn := fun _ => fun
  | [d1, d2, d3] => { results := [.lit (.bool false)], args := [d1, d2, d3] }
  | _ => none }
def CrcLastWrongFalsely : Prop := crcLastRow.holds Try.pinned (OpenSpec.ofChange crcLastWrong)

/-- 'dogwatchlaw02.CrcSwap': WHATEVER THE INPUT: true; the input reads as it did. -/
def crcSwapSpec : ChangeSpec := { name := "crcSwap", fn := fun _ => fun
  | [d1, d2] => { results := [.lit (.bool true)], args := [d1, d2] }
  | _ => none }
def crcSwapRow : OpenClaim := { program := "ytdgdhogbdiofbaa", sum := "6b7b004827faa6a38ed3d39976a7dfe46a8f93613aabe299a7a25cb6def1df3e", func := "dogwatch/dogwatchlaw02.CrcSwap", spec := "crcSwap", unfollowed := true, recurses := true, apart := false }
def CrcSwapSaid : Prop := crcSwapRow.holds Try.pinned (OpenSpec.ofChange crcSwapSpec)

/-- ITS FALSE NEIGHBOUR: 'it returns false'. Refute it at one input. -/
def crcSwapWrong : ChangeSpec := { name := "crcSwap", fn := fun _ => fun
  | [d1, d2] => { results := [.lit (.bool false)], args := [d1, d2] }
  | _ => none }
def CrcSwapWrongFalsely : Prop := crcSwapRow.holds Try.pinned (OpenSpec.ofChange crcSwapWrong)

/-- 'dogwatchlaw02.CrcSums': WHATEVER THE INPUT: true; the input reads as it did. -/
def crcSumsSpec : ChangeSpec := { name := "crcSums", fn := fun _ => fun
  | [d1, d2, d3, d4, d5] => { results := [.lit (.bool true)], args := [d1, d2, d3, d4, d5] }
  | _ => none }
def crcSumsRow : OpenClaim := { program := "ytdgdhogbdiofbaa", sum := "6b7b004827faa6a38ed3d39976a7dfe46a8f93613aabe299a7a25cb6def1df3e", func := "dogwatch/dogwatchlaw02.CrcSums", spec := "crcSums", unfollowed := true, recurses := true, apart := false }
def CrcSumsSaid : Prop := crcSumsRow.holds Try.pinned (OpenSpec.ofChange crcSumsSpec)

/-- ITS FALSE NEIGHBOUR: 'it returns false'. Refute it at one input. -/
def crcSumsWrong : ChangeSpec := { name := "crcSums", fn := fun _ => fun
  | [d1, d2, d3, d4, d5] => { results := [.lit (.bool false)], args := [d1, d2, d3, d4, d5] }
  | _ => none }
def CrcSumsWrongFalsely : Prop := crcSumsRow.holds Try.pinned (OpenSpec.ofChange crcSumsWrong)

/- THE SECOND FORM. 'bulk': how many values and letters a reading holds, each counted each time it is reached (what is shared counts as often as it is met; a slice's spare places count too). A statement '..UptoSaid' is the law's where the arguments, and the package variables that the reading takes, are together of bulk at most 1048576: NARROWER than '..Said'. Prove '..Said' where nothing that the law and all that it calls make is longer than what came in: it says more and counts as full. Else prove '..UptoSaid'. A law counts once. -/
mutual
def uptoBulk {H : Type} : DataW H → Nat
  | .lit (.string bytes) => bytes.length + 1
  | .lit _ => 1
  | .nil => 1
  | .ptr d => uptoBulk d + 1
  | .slice elems spare => uptoBulkAll elems + uptoBulkAll spare + 1
  | .agg parts => uptoBulkAll parts + 1
  | .iface _ d => uptoBulk d + 1
  | .map entries => uptoBulkEntries entries + 1
  | .held _ => 1
def uptoBulkAll {H : Type} : List (DataW H) → Nat
  | [] => 0
  | d :: r => uptoBulk d + uptoBulkAll r
def uptoBulkEntries {H : Type} : List (Lit × DataW H) → Nat
  | [] => 0
  | x :: r => uptoBulkEntry x + uptoBulkEntries r
def uptoBulkEntry {H : Type} : Lit × DataW H → Nat
  | (.string bytes, d) => bytes.length + uptoBulk d + 1
  | (_, d) => uptoBulk d + 1
 end
def uptoSmall : (H : Type) → List (DataW H) → Bool := fun _ ds => decide (uptoBulkAll ds ≤ 1048576)
def OpenSpec.upto (s : _root_.Go.ChangeSpec) : _root_.Go.OpenSpec := { _root_.Go.OpenSpec.ofChange s with cond := some uptoSmall }

/-- 'dogwatchlaw02.CrcBurst', WHERE WHAT IT READS IS OF BULK AT MOST 1048576: true; the input reads as it did. -/
def crcBurstUptoRow : OpenClaim := { program := "ytdgdhogbdiofbaa", sum := "6b7b004827faa6a38ed3d39976a7dfe46a8f93613aabe299a7a25cb6def1df3e", func := "dogwatch/dogwatchlaw02.CrcBurst", spec := "crcBurst", unfollowed := true, recurses := true, apart := false, narrowed := true }
def CrcBurstUptoSaid : Prop := crcBurstUptoRow.holds Try.pinned (OpenSpec.upto crcBurstSpec)

/-- 'dogwatchlaw02.CrcTurns', WHERE WHAT IT READS IS OF BULK AT MOST 1048576: true; the input reads as it did. -/
def crcTurnsUptoRow : OpenClaim := { program := "ytdgdhogbdiofbaa", sum := "6b7b004827faa6a38ed3d39976a7dfe46a8f93613aabe299a7a25cb6def1df3e", func := "dogwatch/dogwatchlaw02.CrcTurns", spec := "crcTurns", unfollowed := true, recurses := true, apart := false, narrowed := true }
def CrcTurnsUptoSaid : Prop := crcTurnsUptoRow.holds Try.pinned (OpenSpec.upto crcTurnsSpec)

/-- 'dogwatchlaw02.CrcLast', WHERE WHAT IT READS IS OF BULK AT MOST 1048576: true; the input reads as it did. -/
def crcLastUptoRow : OpenClaim := { program := "ytdgdhogbdiofbaa", sum := "6b7b004827faa6a38ed3d39976a7dfe46a8f93613aabe299a7a25cb6def1df3e", func := "dogwatch/dogwatchlaw02.CrcLast", spec := "crcLast", unfollowed := true, recurses := true, apart := false, narrowed := true }
def CrcLastUptoSaid : Prop := crcLastUptoRow.holds Try.pinned (OpenSpec.upto crcLastSpec)

/-- 'dogwatchlaw02.CrcSwap', WHERE WHAT IT READS IS OF BULK AT MOST 1048576: true; the input reads as it did. -/
def crcSwapUptoRow : OpenClaim := { program := "ytdgdhogbdiofbaa", sum := "6b7b004827faa6a38ed3d39976a7dfe46a8f93613aabe299a7a25cb6def1df3e", func := "dogwatch/dogwatchlaw02.CrcSwap", spec := "crcSwap", unfollowed := true, recurses := true, apart := false, narrowed := true }
def CrcSwapUptoSaid : Prop := crcSwapUptoRow.holds Try.pinned (OpenSpec.upto crcSwapSpec)

/-- 'dogwatchlaw02.CrcSums', WHERE WHAT IT READS IS OF BULK AT MOST 1048576: true; the input reads as it did. -/
def crcSumsUptoRow : OpenClaim := { program := "ytdgdhogbdiofbaa", sum := "6b7b004827faa6a38ed3d39976a7dfe46a8f93613aabe299a7a25cb6def1df3e", func := "dogwatch/dogwatchlaw02.CrcSums", spec := "crcSums", unfollowed := true, recurses := true, apart := false, narrowed := true }
def CrcSumsUptoSaid : Prop := crcSumsUptoRow.holds Try.pinned (OpenSpec.upto crcSumsSpec)

end Rows
end Go.Proofs.Ytdgdhogbdiofbaa
