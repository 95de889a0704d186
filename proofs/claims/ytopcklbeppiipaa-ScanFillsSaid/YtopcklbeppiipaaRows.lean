/-
  No cell of these rows narrows 'for every input' (looked for: loops, veiled, ifaces, maps, wideKeys, modest, calm, conditions, laid).
  DERIVED. THE GIVEN ROWS OF THIS SEAT. 5 by the template 'for every input the law returns true; each argument reads behind the call as it read before'; 0 by the template 'total and deterministic' (their statements: YtopcklbeppiipaaTotals.lean).
  GIVEN WITH THE SEED: the statements are not yours to turn. If you find one false, say at which input.
  Laid BY PROGRAM, IN A SANDBOX (cutbox-rows.mjs): the forced cells as the released guide's own fill.sh prints them over the translation 1079f46a03107067… (all of the seat's roots in one cut). By AI agents, Wed Nov 11 2026. No macro, syntax, notation, axiom, sorry.
-/
import Derived.Test.YtopcklbeppiipaaChecked
import GoSem.Claim
import GoSem.ClaimJoined
import GoSem.ClaimMapViews
import Derived.JoinedTies
import Derived.KernelRfl
namespace Go.Proofs.Ytopcklbeppiipaa
/- THE CELL 'sum', in the pinned program and in every row, IS THE sha256 OF THE DUMP (.gsa) THAT YtopcklbeppiipaaProg.lean LOADS. Nothing in Lean hashes anything: it is a label: what it is worth is what the hold of that sum in a sandbox is worth. -/
noncomputable def Try.pinned : Pinned := { name := "ytopcklbeppiipaa", sum := "1079f46a03107067c360bb9853bbe160a722625f8600a7adb5a15bf5e80415a7", checked := Try.checked }
namespace Rows
def none {H : Type} : Left H := { results := [], args := [] }

/-- 'dogwatchlaw09.ScanLast': WHATEVER THE INPUT: true; the input reads as it did. -/
def scanLastSpec : ChangeSpec := { name := "scanLast", fn := fun _ => fun
  | [d] => { results := [.lit (.bool true)], args := [d] }
  | _ => none }
def scanLastRow : OpenClaim := { program := "ytopcklbeppiipaa", sum := "1079f46a03107067c360bb9853bbe160a722625f8600a7adb5a15bf5e80415a7", func := "dogwatch/dogwatchlaw09.ScanLast", spec := "scanLast", inPlace := ["internal/bytealg.CountString", "internal/bytealg.IndexByteString", "internal/bytealg.IndexString"], unfollowed := true, recurses := true, named := ["internal/bytealg.MaxLen"], apart := false }
def ScanLastSaid : Prop := scanLastRow.holds Try.pinned (OpenSpec.ofChange scanLastSpec)

/-- ITS FALSE NEIGHBOUR: 'it returns false'. Refute it at one input. -/
def scanLastWrong : ChangeSpec := { name := "scanLast", fn := fun _ => fun
  | [d] => { results := [.lit (.bool false)], args := [d] }
  | _ => none }
def ScanLastWrongFalsely : Prop := scanLastRow.holds Try.pinned (OpenSpec.ofChange scanLastWrong)

/-- 'dogwatchlaw09.ScanNext': WHATEVER THE INPUT: true; the input reads as it did. -/
def scanNextSpec : ChangeSpec := { name := "scanNext", fn := fun _ => fun
  | [d] => { results := [.lit (.bool true)], args := [d] }
  | _ => none }
def scanNextRow : OpenClaim := { program := "ytopcklbeppiipaa", sum := "1079f46a03107067c360bb9853bbe160a722625f8600a7adb5a15bf5e80415a7", func := "dogwatch/dogwatchlaw09.ScanNext", spec := "scanNext", inPlace := ["internal/bytealg.CountString", "internal/bytealg.IndexByteString", "internal/bytealg.IndexString"], unfollowed := true, recurses := true, named := ["internal/bytealg.MaxLen"], apart := false }
def ScanNextSaid : Prop := scanNextRow.holds Try.pinned (OpenSpec.ofChange scanNextSpec)

/-- ITS FALSE NEIGHBOUR: 'it returns false'. Refute it at one input. -/
def scanNextWrong : ChangeSpec := { name := "scanNext", fn := fun _ => fun
  | [d] => { results := [.lit (.bool false)], args := [d] }
  | _ => none }
def ScanNextWrongFalsely : Prop := scanNextRow.holds Try.pinned (OpenSpec.ofChange scanNextWrong)

/-- 'dogwatchlaw09.ScanWrites': WHATEVER THE INPUT: true; the input reads as it did. -/
def scanWritesSpec : ChangeSpec := { name := "scanWrites", fn := fun _ => fun
  | [d1, d2] => { results := [.lit (.bool true)], args := [d1, d2] }
  | _ => none }
def scanWritesRow : OpenClaim := { program := "ytopcklbeppiipaa", sum := "1079f46a03107067c360bb9853bbe160a722625f8600a7adb5a15bf5e80415a7", func := "dogwatch/dogwatchlaw09.ScanWrites", spec := "scanWrites", inPlace := ["internal/bytealg.CountString", "internal/bytealg.IndexByteString", "internal/bytealg.IndexString"], unfollowed := true, recurses := true, named := ["internal/bytealg.MaxLen"], apart := false }
def ScanWritesSaid : Prop := scanWritesRow.holds Try.pinned (OpenSpec.ofChange scanWritesSpec)

/-- ITS FALSE NEIGHBOUR: 'it returns false'. Refute it at one input. -/
def scanWritesWrong : ChangeSpec := { name := "scanWrites", fn := fun _ => fun
  | [d1, d2] => { results := [.lit (.bool false)], args := [d1, d2] }
  | _ => none }
def ScanWritesWrongFalsely : Prop := scanWritesRow.holds Try.pinned (OpenSpec.ofChange scanWritesWrong)

/-- 'dogwatchlaw09.ScanDirt': WHATEVER THE INPUT: true; the input reads as it did. -/
def scanDirtSpec : ChangeSpec := { name := "scanDirt", fn := fun _ => fun
  | [d1, d2] => { results := [.lit (.bool true)], args := [d1, d2] }
  | _ => none }
def scanDirtRow : OpenClaim := { program := "ytopcklbeppiipaa", sum := "1079f46a03107067c360bb9853bbe160a722625f8600a7adb5a15bf5e80415a7", func := "dogwatch/dogwatchlaw09.ScanDirt", spec := "scanDirt", inPlace := ["internal/bytealg.CountString", "internal/bytealg.IndexByteString", "internal/bytealg.IndexString"], unfollowed := true, recurses := true, named := ["internal/bytealg.MaxLen"], apart := false }
def ScanDirtSaid : Prop := scanDirtRow.holds Try.pinned (OpenSpec.ofChange scanDirtSpec)

/-- ITS FALSE NEIGHBOUR: 'it returns false'. Refute it at one input. -/
def scanDirtWrong : ChangeSpec := { name := "scanDirt", fn := fun _ => fun
  | [d1, d2] => { results := [.lit (.bool false)], args := [d1, d2] }
  | _ => none }
def ScanDirtWrongFalsely : Prop := scanDirtRow.holds Try.pinned (OpenSpec.ofChange scanDirtWrong)

/-- 'dogwatchlaw09.ScanFills': WHATEVER THE INPUT: true; the input reads as it did. -/
def scanFillsSpec : ChangeSpec := { name := "scanFills", fn := fun _ => fun
  | [d1, d2] => { results := [.lit (.bool true)], args := [d1, d2] }
  | _ => none }
def scanFillsRow : OpenClaim := { program := "ytopcklbeppiipaa", sum := "1079f46a03107067c360bb9853bbe160a722625f8600a7adb5a15bf5e80415a7", func := "dogwatch/dogwatchlaw09.ScanFills", spec := "scanFills", inPlace := ["internal/bytealg.CountString", "internal/bytealg.IndexByteString", "internal/bytealg.IndexString"], unfollowed := true, recurses := true, named := ["internal/bytealg.MaxLen"], apart := false }
def ScanFillsSaid : Prop := scanFillsRow.holds Try.pinned (OpenSpec.ofChange scanFillsSpec)

/-- ITS FALSE NEIGHBOUR: 'it returns false'. Refute it at one input. -/
def scanFillsWrong : ChangeSpec := { name := "scanFills", fn := fun _ => fun
  | [d1, d2] => { results := [.lit (.bool false)], args := [d1, d2] }
  | _ => none }
def ScanFillsWrongFalsely : Prop := scanFillsRow.holds Try.pinned (OpenSpec.ofChange scanFillsWrong)

/- THE SECOND FORM. 'bulk': how many values and letters a reading holds, each counted each time it is reached (what is shared counts as often as it is met; a slice's spare places count too). A statement '..UptoSaid' is the law's where the arguments, and the package variables that the reading takes, are together of bulk at most 1048576: NARROWER than '..Said'. Prove '..Said' where nothing that the law and all that it calls make is longer than what came in: it says more and counts as full. Else prove '..UptoSaid'. A law counts once. -/
mutual
def uptoBulk {H : Type} : DataW H → Nat
  | .lit (.string bytes) => bytes.length + 1
  | .lit _ => 1
  | .nil => 1
  | .ptr d => uptoBulk d + 1
  | .slice elems spare => uptoBulkAll elems + uptoBulkAll spare + 1
  | .agg parts => uptoBulkAll parts + 1
  | .iface _ d => uptoBulk d + 1
  | .map entries => uptoBulkEntries entries + 1
  | .held _ => 1
def uptoBulkAll {H : Type} : List (DataW H) → Nat
  | [] => 0
  | d :: r => uptoBulk d + uptoBulkAll r
def uptoBulkEntries {H : Type} : List (Lit × DataW H) → Nat
  | [] => 0
  | x :: r => uptoBulkEntry x + uptoBulkEntries r
def uptoBulkEntry {H : Type} : Lit × DataW H → Nat
  | (.string bytes, d) => bytes.length + uptoBulk d + 1
  | (_, d) => uptoBulk d + 1
 end
def uptoSmall : (H : Type) → List (DataW H) → Bool := fun _ ds => decide (uptoBulkAll ds ≤ 1048576)
def OpenSpec.upto (s : _root_.Go.ChangeSpec) : _root_.Go.OpenSpec := { _root_.Go.OpenSpec.ofChange s with cond := some uptoSmall }

/-- 'dogwatchlaw09.ScanLast', WHERE WHAT IT READS IS OF BULK AT MOST 1048576: true; the input reads as it did. -/
def scanLastUptoRow : OpenClaim := { program := "ytopcklbeppiipaa", sum := "1079f46a03107067c360bb9853bbe160a722625f8600a7adb5a15bf5e80415a7", func := "dogwatch/dogwatchlaw09.ScanLast", spec := "scanLast", inPlace := ["internal/bytealg.CountString", "internal/bytealg.IndexByteString", "internal/bytealg.IndexString"], unfollowed := true, recurses := true, named := ["internal/bytealg.MaxLen"], apart := false, narrowed := true }
def ScanLastUptoSaid : Prop := scanLastUptoRow.holds Try.pinned (OpenSpec.upto scanLastSpec)

/-- 'dogwatchlaw09.ScanNext', WHERE WHAT IT READS IS OF BULK AT MOST 1048576: true; the input reads as it did. -/
def scanNextUptoRow : OpenClaim := { program := "ytopcklbeppiipaa", sum := "1079f46a03107067c360bb9853bbe160a722625f8600a7adb5a15bf5e80415a7", func := "dogwatch/dogwatchlaw09.ScanNext", spec := "scanNext", inPlace := ["internal/bytealg.CountString", "internal/bytealg.IndexByteString", "internal/bytealg.IndexString"], unfollowed := true, recurses := true, named := ["internal/bytealg.MaxLen"], apart := false, narrowed := true }
def ScanNextUptoSaid : Prop := scanNextUptoRow.holds Try.pinned (OpenSpec.upto scanNextSpec)

/-- 'dogwatchlaw09.ScanWrites', WHERE WHAT IT READS IS OF BULK AT MOST 1048576: true; the input reads as it did. -/
def scanWritesUptoRow : OpenClaim := { program := "ytopcklbeppiipaa", sum := "1079f46a03107067c360bb9853bbe160a722625f8600a7adb5a15bf5e80415a7", func := "dogwatch/dogwatchlaw09.ScanWrites", spec := "scanWrites", inPlace := ["internal/bytealg.CountString", "internal/bytealg.IndexByteString", "internal/bytealg.IndexString"], unfollowed := true, recurses := true, named := ["internal/bytealg.MaxLen"], apart := false, narrowed := true }
def ScanWritesUptoSaid : Prop := scanWritesUptoRow.holds Try.pinned (OpenSpec.upto scanWritesSpec)

/-- 'dogwatchlaw09.ScanDirt', WHERE WHAT IT READS IS OF BULK AT MOST 1048576: true; the input reads as it did. -/
def scanDirtUptoRow : OpenClaim := { program := "ytopcklbeppiipaa", sum := "1079f46a03107067c360bb9853bbe160a722625f8600a7adb5a15bf5e80415a7", func := "dogwatch/dogwatchlaw09.ScanDirt", spec := "scanDirt", inPlace := ["internal/bytealg.CountString", "internal/bytealg.IndexByteString", "internal/bytealg.IndexString"], unfollowed := true, recurses := true, named := ["internal/bytealg.MaxLen"], apart := false, narrowed := true }
def ScanDirtUptoSaid : Prop := scanDirtUptoRow.holds Try.pinned (OpenSpec.upto scanDirtSpec)

/-- 'dogwatchlaw09.ScanFills', WHERE WHAT IT READS IS OF BULK AT MOST 1048576: true; the input reads as it did. -/
def scanFillsUptoRow : OpenClaim := { program := "ytopcklbeppiipaa", sum := "1079f46a03107067c360bb9853bbe160a722625f8600a7adb5a15bf5e80415a7", func := "dogwatch/dogwatchlaw09.ScanFills", spec := "scanFills", inPlace := ["internal/bytealg.CountString", "internal/bytealg.IndexByteString", "internal/bytealg.IndexString"], unfollowed := true, recurses := true, named := ["internal/bytealg.MaxLen"], apart := false, narrowed := true }
def ScanFillsUptoSaid : Prop := scanFillsUptoRow.holds Try.pinned (OpenSpec.upto scanFillsSpec)

end Rows
end Go.Proofs.Ytopcklbeppiipaa
