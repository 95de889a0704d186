/-
  No cell of these rows narrows 'for every input' (looked for: loops, veiled, ifaces, maps, wideKeys, modest, calm, conditions, laid).
  DERIVED. THE GIVEN ROWS OF THIS SEAT. 6 by the template 'for every input the law returns true; each argument reads behind the call as it read before'; 0 by the template 'total and deterministic' (their statements: YtcpcceeggjjifaaTotals.lean).
  GIVEN WITH THE SEED: the statements are not yours to turn. If you find one false, say at which input.
  Laid BY PROGRAM, IN A SANDBOX (cutbox-rows.mjs): the forced cells as the released guide's own fill.sh prints them over the translation bb46099728ba2137… (all of the seat's roots in one cut). By AI agents, Wed Nov 11 2026. No macro, syntax, notation, axiom, sorry.
-/
import Derived.Test.YtcpcceeggjjifaaChecked
import GoSem.Claim
import GoSem.ClaimJoined
import GoSem.ClaimMapViews
import Derived.JoinedTies
import Derived.KernelRfl
namespace Go.Proofs.Ytcpcceeggjjifaa
/- THE CELL 'sum', in the pinned program and in every row, IS THE sha256 OF THE DUMP (.gsa) THAT YtcpcceeggjjifaaProg.lean LOADS. Nothing in Lean hashes anything: it is a label: what it is worth is what the hold of that sum in a sandbox is worth. -/
noncomputable def Try.pinned : Pinned := { name := "ytcpcceeggjjifaa", sum := "bb46099728ba213720226341402a57206d4d88f432f942c95336e920b78c1901", checked := Try.checked }
namespace Rows
def none {H : Type} : Left H := { results := [], args := [] }

/-- 'dogwatchlaw03.FlashNew': WHATEVER THE INPUT: true; the input reads as it did. -/
def flashNewSpec : ChangeSpec := { name := "flashNew", fn := fun _ => fun
  | [d1, d2, d3] => { results := [.lit (.bool true)], args := [d1, d2, d3] }
  | _ => none }
def flashNewRow : OpenClaim := { program := "ytcpcceeggjjifaa", sum := "bb46099728ba213720226341402a57206d4d88f432f942c95336e920b78c1901", func := "dogwatch/dogwatchlaw03.FlashNew", spec := "flashNew", inPlace := ["internal/abi.NoEscape", "internal/bytealg.MakeNoZero", "internal/bytealg.CountString", "internal/bytealg.IndexByteString", "internal/bytealg.IndexString"], unfollowed := true, recurses := true, named := ["internal/bytealg.MaxLen"], apart := false }
def FlashNewSaid : Prop := flashNewRow.holds Try.pinned (OpenSpec.ofChange flashNewSpec)

/-- ITS FALSE NEIGHBOUR: 'it returns false'. Refute it at one input. -/
def flashNewWrong : ChangeSpec := { name := "flashNew", fn := fun _ => fun
  | [d1, d2, d3] => { results := [.lit (.bool false)], args := [d1, d2, d3] }
  | _ => none }
def FlashNewWrongFalsely : Prop := flashNewRow.holds Try.pinned (OpenSpec.ofChange flashNewWrong)

/-- 'dogwatchlaw03.FlashKeeps': WHATEVER THE INPUT: true; the input reads as it did. -/
def flashKeepsSpec : ChangeSpec := { name := "flashKeeps", fn := fun _ => fun
  | [d1, d2, d3, d4] => { results := [.lit (.bool true)], args := [d1, d2, d3, d4] }
  | _ => none }
def flashKeepsRow : OpenClaim := { program := "ytcpcceeggjjifaa", sum := "bb46099728ba213720226341402a57206d4d88f432f942c95336e920b78c1901", func := "dogwatch/dogwatchlaw03.FlashKeeps", spec := "flashKeeps", inPlace := ["internal/abi.NoEscape", "internal/bytealg.MakeNoZero", "internal/bytealg.CountString", "internal/bytealg.IndexByteString", "internal/bytealg.IndexString"], unfollowed := true, recurses := true, named := ["internal/bytealg.MaxLen"], apart := false }
def FlashKeepsSaid : Prop := flashKeepsRow.holds Try.pinned (OpenSpec.ofChange flashKeepsSpec)

/-- ITS FALSE NEIGHBOUR: 'it returns false'. Refute it at one input. -/
def flashKeepsWrong : ChangeSpec := { name := "flashKeeps", fn := fun _ => fun
  | [d1, d2, d3, d4] => { results := [.lit (.bool false)], args := [d1, d2, d3, d4] }
  | _ => none }
def FlashKeepsWrongFalsely : Prop := flashKeepsRow.holds Try.pinned (OpenSpec.ofChange flashKeepsWrong)

/-- 'dogwatchlaw03.FlashErases': WHATEVER THE INPUT: true; the input reads as it did. -/
def flashErasesSpec : ChangeSpec := { name := "flashErases", fn := fun _ => fun
  | [d1, d2, d3] => { results := [.lit (.bool true)], args := [d1, d2, d3] }
  | _ => none }
def flashErasesRow : OpenClaim := { program := "ytcpcceeggjjifaa", sum := "bb46099728ba213720226341402a57206d4d88f432f942c95336e920b78c1901", func := "dogwatch/dogwatchlaw03.FlashErases", spec := "flashErases", inPlace := ["internal/abi.NoEscape", "internal/bytealg.MakeNoZero", "internal/bytealg.CountString", "internal/bytealg.IndexByteString", "internal/bytealg.IndexString"], unfollowed := true, recurses := true, named := ["internal/bytealg.MaxLen"], apart := false }
def FlashErasesSaid : Prop := flashErasesRow.holds Try.pinned (OpenSpec.ofChange flashErasesSpec)

/-- ITS FALSE NEIGHBOUR: 'it returns false'. Refute it at one input. -/
def flashErasesWrong : ChangeSpec := { name := "flashErases", fn := fun _ => fun
  | [d1, d2, d3] => { results := [.lit (.bool false)], args := [d1, d2, d3] }
  | _ => none }
def FlashErasesWrongFalsely : Prop := flashErasesRow.holds Try.pinned (OpenSpec.ofChange flashErasesWrong)

/-- 'dogwatchlaw03.FlashTwice': WHATEVER THE INPUT: true; the input reads as it did. -/
def flashTwiceSpec : ChangeSpec := { name := "flashTwice", fn := fun _ => fun
  | [d1, d2, d3, d4, d5, d6] => { results := [.lit (.bool true)], args := [d1, d2, d3, d4, d5, d6] }
  | _ => none }
def flashTwiceRow : OpenClaim := { program := "ytcpcceeggjjifaa", sum := "bb46099728ba213720226341402a57206d4d88f432f942c95336e920b78c1901", func := "dogwatch/dogwatchlaw03.FlashTwice", spec := "flashTwice", inPlace := ["internal/abi.NoEscape", "internal/bytealg.MakeNoZero", "internal/bytealg.CountString", "internal/bytealg.IndexByteString", "internal/bytealg.IndexString"], unfollowed := true, recurses := true, named := ["internal/bytealg.MaxLen"], apart := false }
def FlashTwiceSaid : Prop := flashTwiceRow.holds Try.pinned (OpenSpec.ofChange flashTwiceSpec)

/-- ITS FALSE NEIGHBOUR: 'it returns false'. Refute it at one input. -/
def flashTwiceWrong : ChangeSpec := { name := "flashTwice", fn := fun _ => fun
  | [d1, d2, d3, d4, d5, d6] => { results := [.lit (.bool false)], args := [d1, d2, d3, d4, d5, d6] }
  | _ => none }
def FlashTwiceWrongFalsely : Prop := flashTwiceRow.holds Try.pinned (OpenSpec.ofChange flashTwiceWrong)

/-- 'dogwatchlaw03.FlashParts': WHATEVER THE INPUT: true; the input reads as it did. -/
def flashPartsSpec : ChangeSpec := { name := "flashParts", fn := fun _ => fun
  | [d1, d2, d3, d4, d5] => { results := [.lit (.bool true)], args := [d1, d2, d3, d4, d5] }
  | _ => none }
def flashPartsRow : OpenClaim := { program := "ytcpcceeggjjifaa", sum := "bb46099728ba213720226341402a57206d4d88f432f942c95336e920b78c1901", func := "dogwatch/dogwatchlaw03.FlashParts", spec := "flashParts", inPlace := ["internal/abi.NoEscape", "internal/bytealg.MakeNoZero", "internal/bytealg.CountString", "internal/bytealg.IndexByteString", "internal/bytealg.IndexString"], unfollowed := true, recurses := true, named := ["internal/bytealg.MaxLen"], apart := false }
def FlashPartsSaid : Prop := flashPartsRow.holds Try.pinned (OpenSpec.ofChange flashPartsSpec)

/-- ITS FALSE NEIGHBOUR: 'it returns false'. Refute it at one input. -/
def flashPartsWrong : ChangeSpec := { name := "flashParts", fn := fun _ => fun
  | [d1, d2, d3, d4, d5] => { results := [.lit (.bool false)], args := [d1, d2, d3, d4, d5] }
  | _ => none }
def FlashPartsWrongFalsely : Prop := flashPartsRow.holds Try.pinned (OpenSpec.ofChange flashPartsWrong)

/-- 'dogwatchlaw03.FlashSees': WHATEVER THE INPUT: true; the input reads as it did. -/
def flashSeesSpec : ChangeSpec := { name := "flashSees", fn := fun _ => fun
  | [d1, d2, d3, d4] => { results := [.lit (.bool true)], args := [d1, d2, d3, d4] }
  | _ => none }
def flashSeesRow : OpenClaim := { program := "ytcpcceeggjjifaa", sum := "bb46099728ba213720226341402a57206d4d88f432f942c95336e920b78c1901", func := "dogwatch/dogwatchlaw03.FlashSees", spec := "flashSees", inPlace := ["internal/abi.NoEscape", "internal/bytealg.MakeNoZero", "internal/bytealg.CountString", "internal/bytealg.IndexByteString", "internal/bytealg.IndexString"], unfollowed := true, recurses := true, named := ["internal/bytealg.MaxLen"], apart := false }
def FlashSeesSaid : Prop := flashSeesRow.holds Try.pinned (OpenSpec.ofChange flashSeesSpec)

/-- ITS FALSE NEIGHBOUR: 'it returns false'. Refute it at one input. -/
def flashSeesWrong : ChangeSpec := { name := "flashSees", fn := fun _ => fun
  | [d1, d2, d3, d4] => { results := [.lit (.bool false)], args := [d1, d2, d3, d4] }
  | _ => none }
def FlashSeesWrongFalsely : Prop := flashSeesRow.holds Try.pinned (OpenSpec.ofChange flashSeesWrong)

/- THE SECOND FORM. 'bulk': how many values and letters a reading holds, each counted each time it is reached (what is shared counts as often as it is met; a slice's spare places count too). A statement '..UptoSaid' is the law's where the arguments, and the package variables that the reading takes, are together of bulk at most 1048576: NARROWER than '..Said'. Prove '..Said' where nothing that the law and all that it calls make is longer than what came in: it says more and counts as full. Else prove '..UptoSaid'. A law counts once. -/
mutual
def uptoBulk {H : Type} : DataW H → Nat
  | .lit (.string bytes) => bytes.length + 1
  | .lit _ => 1
  | .nil => 1
  | .ptr d => uptoBulk d + 1
  | .slice elems spare => uptoBulkAll elems + uptoBulkAll spare + 1
  | .agg parts => uptoBulkAll parts + 1
  | .iface _ d => uptoBulk d + 1
  | .map entries => uptoBulkEntries entries + 1
  | .held _ => 1
def uptoBulkAll {H : Type} : List (DataW H) → Nat
  | [] => 0
  | d :: r => uptoBulk d + uptoBulkAll r
def uptoBulkEntries {H : Type} : List (Lit × DataW H) → Nat
  | [] => 0
  | x :: r => uptoBulkEntry x + uptoBulkEntries r
def uptoBulkEntry {H : Type} : Lit × DataW H → Nat
  | (.string bytes, d) => bytes.length + uptoBulk d + 1
  | (_, d) => uptoBulk d + 1
 end
def uptoSmall : (H : Type) → List (DataW H) → Bool := fun _ ds => decide (uptoBulkAll ds ≤ 1048576)
def OpenSpec.upto (s : _root_.Go.ChangeSpec) : _root_.Go.OpenSpec := { _root_.Go.OpenSpec.ofChange s with cond := some uptoSmall }

/-- 'dogwatchlaw03.FlashNew', WHERE WHAT IT READS IS OF BULK AT MOST 1048576: true; the input reads as it did. -/
def flashNewUptoRow : OpenClaim := { program := "ytcpcceeggjjifaa", sum := "bb46099728ba213720226341402a57206d4d88f432f942c95336e920b78c1901", func := "dogwatch/dogwatchlaw03.FlashNew", spec := "flashNew", inPlace := ["internal/abi.NoEscape", "internal/bytealg.MakeNoZero", "internal/bytealg.CountString", "internal/bytealg.IndexByteString", "internal/bytealg.IndexString"], unfollowed := true, recurses := true, named := ["internal/bytealg.MaxLen"], apart := false, narrowed := true }
def FlashNewUptoSaid : Prop := flashNewUptoRow.holds Try.pinned (OpenSpec.upto flashNewSpec)

/-- 'dogwatchlaw03.FlashKeeps', WHERE WHAT IT READS IS OF BULK AT MOST 1048576: true; the input reads as it did. -/
def flashKeepsUptoRow : OpenClaim := { program := "ytcpcceeggjjifaa", sum := "bb46099728ba213720226341402a57206d4d88f432f942c95336e920b78c1901", func := "dogwatch/dogwatchlaw03.FlashKeeps", spec := "flashKeeps", inPlace := ["internal/abi.NoEscape", "internal/bytealg.MakeNoZero", "internal/bytealg.CountString", "internal/bytealg.IndexByteString", "internal/bytealg.IndexString"], unfollowed := true, recurses := true, named := ["internal/bytealg.MaxLen"], apart := false, narrowed := true }
def FlashKeepsUptoSaid : Prop := flashKeepsUptoRow.holds Try.pinned (OpenSpec.upto flashKeepsSpec)

/-- 'dogwatchlaw03.FlashErases', WHERE WHAT IT READS IS OF BULK AT MOST 1048576: true; the input reads as it did. -/
def flashErasesUptoRow : OpenClaim := { program := "ytcpcceeggjjifaa", sum := "bb46099728ba213720226341402a57206d4d88f432f942c95336e920b78c1901", func := "dogwatch/dogwatchlaw03.FlashErases", spec := "flashErases", inPlace := ["internal/abi.NoEscape", "internal/bytealg.MakeNoZero", "internal/bytealg.CountString", "internal/bytealg.IndexByteString", "internal/bytealg.IndexString"], unfollowed := true, recurses := true, named := ["internal/bytealg.MaxLen"], apart := false, narrowed := true }
def FlashErasesUptoSaid : Prop := flashErasesUptoRow.holds Try.pinned (OpenSpec.upto flashErasesSpec)

/-- 'dogwatchlaw03.FlashTwice', WHERE WHAT IT READS IS OF BULK AT MOST 1048576: true; the input reads as it did. -/
def flashTwiceUptoRow : OpenClaim := { program := "ytcpcceeggjjifaa", sum := "bb46099728ba213720226341402a57206d4d88f432f942c95336e920b78c1901", func := "dogwatch/dogwatchlaw03.FlashTwice", spec := "flashTwice", inPlace := ["internal/abi.NoEscape", "internal/bytealg.MakeNoZero", "internal/bytealg.CountString", "internal/bytealg.IndexByteString", "internal/bytealg.IndexString"], unfollowed := true, recurses := true, named := ["internal/bytealg.MaxLen"], apart := false, narrowed := true }
def FlashTwiceUptoSaid : Prop := flashTwiceUptoRow.holds Try.pinned (OpenSpec.upto flashTwiceSpec)

/-- 'dogwatchlaw03.FlashParts', WHERE WHAT IT READS IS OF BULK AT MOST 1048576: true; the input reads as it did. -/
def flashPartsUptoRow : OpenClaim := { program := "ytcpcceeggjjifaa", sum := "bb46099728ba213720226341402a57206d4d88f432f942c95336e920b78c1901", func := "dogwatch/dogwatchlaw03.FlashParts", spec := "flashParts", inPlace := ["internal/abi.NoEscape", "internal/bytealg.MakeNoZero", "internal/bytealg.CountString", "internal/bytealg.IndexByteString", "internal/bytealg.IndexString"], unfollowed := true, recurses := true, named := ["internal/bytealg.MaxLen"], apart := false, narrowed := true }
def FlashPartsUptoSaid : Prop := flashPartsUptoRow.holds Try.pinned (OpenSpec.upto flashPartsSpec)

/-- 'dogwatchlaw03.FlashSees', WHERE WHAT IT READS IS OF BULK AT MOST 1048576: true; the input reads as it did. -/
def flashSeesUptoRow : OpenClaim := { program := "ytcpcceeggjjifaa", sum := "bb46099728ba213720226341402a57206d4d88f432f942c95336e920b78c1901", func := "dogwatch/dogwatchlaw03.FlashSees", spec := "flashSees", inPlace := ["internal/abi.NoEscape", "internal/bytealg.MakeNoZero", "internal/bytealg.CountString", "internal/bytealg.IndexByteString", "internal/bytealg.IndexString"], unfollowed := true, recurses := true, named := ["internal/bytealg.MaxLen"], apart := false, narrowed := true }
def FlashSeesUptoSaid : Prop := flashSeesUptoRow.holds Try.pinned (OpenSpec.upto flashSeesSpec)

end Rows
end Go.Proofs.Ytcpcceeggjjifaa
