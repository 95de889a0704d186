/-
  No cell of these rows narrows 'for every input' (looked for: loops, veiled, ifaces, maps, wideKeys, modest, calm, conditions, laid).
  DERIVED. THE GIVEN ROWS OF THIS SEAT. 4 by the template 'for every input the law returns true; each argument reads behind the call as it read before'; 0 by the template 'total and deterministic' (their statements: YtbaahogdgldcpaaTotals.lean).
  GIVEN WITH THE SEED: the statements are not yours to turn. If you find one false, say at which input.
  Laid BY PROGRAM, IN A SANDBOX (cutbox-rows.mjs): the forced cells as the released guide's own fill.sh prints them over the translation a35d59d6a4d8b981… (all of the seat's roots in one cut). By AI agents, Wed Nov 11 2026. No macro, syntax, notation, axiom, sorry.
-/
import Derived.Test.YtbaahogdgldcpaaChecked
import GoSem.Claim
import GoSem.ClaimJoined
import GoSem.ClaimMapViews
import Derived.JoinedTies
import Derived.KernelRfl
namespace Go.Proofs.Ytbaahogdgldcpaa
/- THE CELL 'sum', in the pinned program and in every row, IS THE sha256 OF THE DUMP (.gsa) THAT YtbaahogdgldcpaaProg.lean LOADS. Nothing in Lean hashes anything: it is a label: what it is worth is what the hold of that sum in a sandbox is worth. -/
noncomputable def Try.pinned : Pinned := { name := "ytbaahogdgldcpaa", sum := "a35d59d6a4d8b9813046170296528d2b22def2281c8aa93ac20371bbf51c2a11", checked := Try.checked }
namespace Rows
def none {H : Type} : Left H := { results := [], args := [] }

/-- 'dogwatchlaw08.BankNew': WHATEVER THE INPUT: true; the input reads as it did. -/
def bankNewSpec : ChangeSpec := { name := "bankNew", fn := fun _ => fun
  | [d] => { results := [.lit (.bool true)], args := [d] }
  | _ => none }
def bankNewRow : OpenClaim := { program := "ytbaahogdgldcpaa", sum := "a35d59d6a4d8b9813046170296528d2b22def2281c8aa93ac20371bbf51c2a11", func := "dogwatch/dogwatchlaw08.BankNew", spec := "bankNew", inPlace := ["internal/bytealg.CountString", "internal/bytealg.IndexByteString", "internal/bytealg.IndexString"], unfollowed := true, recurses := true, named := ["internal/bytealg.MaxLen"], apart := false }
def BankNewSaid : Prop := bankNewRow.holds Try.pinned (OpenSpec.ofChange bankNewSpec)

/-- ITS FALSE NEIGHBOUR: 'it returns false'. Refute it at one input. -/
def bankNewWrong : ChangeSpec := { name := "bankNew", fn := fun _ => fun
  | [d] => { results := [.lit (.bool false)], args := [d] }
  | _ => none }
def BankNewWrongFalsely : Prop := bankNewRow.holds Try.pinned (OpenSpec.ofChange bankNewWrong)

/-- 'dogwatchlaw08.BankPlaces': WHATEVER THE INPUT: true; the input reads as it did. -/
def bankPlacesSpec : ChangeSpec := { name := "bankPlaces", fn := fun _ => fun
  | [d] => { results := [.lit (.bool true)], args := [d] }
  | _ => none }
def bankPlacesRow : OpenClaim := { program := "ytbaahogdgldcpaa", sum := "a35d59d6a4d8b9813046170296528d2b22def2281c8aa93ac20371bbf51c2a11", func := "dogwatch/dogwatchlaw08.BankPlaces", spec := "bankPlaces", inPlace := ["internal/bytealg.CountString", "internal/bytealg.IndexByteString", "internal/bytealg.IndexString"], unfollowed := true, recurses := true, named := ["internal/bytealg.MaxLen"], apart := false }
def BankPlacesSaid : Prop := bankPlacesRow.holds Try.pinned (OpenSpec.ofChange bankPlacesSpec)

/-- ITS FALSE NEIGHBOUR: 'it returns false'. Refute it at one input. -/
def bankPlacesWrong : ChangeSpec := { name := "bankPlaces", fn := fun _ => fun
  | [d] => { results := [.lit (.bool false)], args := [d] }
  | _ => none }
def BankPlacesWrongFalsely : Prop := bankPlacesRow.holds Try.pinned (OpenSpec.ofChange bankPlacesWrong)

/-- 'dogwatchlaw08.BankApart': WHATEVER THE INPUT: true; the input reads as it did. -/
def bankApartSpec : ChangeSpec := { name := "bankApart", fn := fun _ => fun
  | [d1, d2, d3] => { results := [.lit (.bool true)], args := [d1, d2, d3] }
  | _ => none }
def bankApartRow : OpenClaim := { program := "ytbaahogdgldcpaa", sum := "a35d59d6a4d8b9813046170296528d2b22def2281c8aa93ac20371bbf51c2a11", func := "dogwatch/dogwatchlaw08.BankApart", spec := "bankApart", inPlace := ["internal/bytealg.CountString", "internal/bytealg.IndexByteString", "internal/bytealg.IndexString"], unfollowed := true, recurses := true, named := ["internal/bytealg.MaxLen"], apart := false }
def BankApartSaid : Prop := bankApartRow.holds Try.pinned (OpenSpec.ofChange bankApartSpec)

/-- ITS FALSE NEIGHBOUR: 'it returns false'. Refute it at one input. -/
def bankApartWrong : ChangeSpec := { name := "bankApart", fn := fun _ => fun
  | [d1, d2, d3] => { results := [.lit (.bool false)], args := [d1, d2, d3] }
  | _ => none }
def BankApartWrongFalsely : Prop := bankApartRow.holds Try.pinned (OpenSpec.ofChange bankApartWrong)

/-- 'dogwatchlaw08.BankWrites': WHATEVER THE INPUT: true; the input reads as it did. -/
def bankWritesSpec : ChangeSpec := { name := "bankWrites", fn := fun _ => fun
  | [d1, d2, d3] => { results := [.lit (.bool true)], args := [d1, d2, d3] }
  | _ => none }
def bankWritesRow : OpenClaim := { program := "ytbaahogdgldcpaa", sum := "a35d59d6a4d8b9813046170296528d2b22def2281c8aa93ac20371bbf51c2a11", func := "dogwatch/dogwatchlaw08.BankWrites", spec := "bankWrites", inPlace := ["internal/bytealg.CountString", "internal/bytealg.IndexByteString", "internal/bytealg.IndexString"], unfollowed := true, recurses := true, named := ["internal/bytealg.MaxLen"], apart := false }
def BankWritesSaid : Prop := bankWritesRow.holds Try.pinned (OpenSpec.ofChange bankWritesSpec)

/-- ITS FALSE NEIGHBOUR: 'it returns false'. Refute it at one input. -/
def bankWritesWrong : ChangeSpec := { name := "bankWrites", fn := fun _ => fun
  | [d1, d2, d3] => { results := [.lit (.bool false)], args := [d1, d2, d3] }
  | _ => none }
def BankWritesWrongFalsely : Prop := bankWritesRow.holds Try.pinned (OpenSpec.ofChange bankWritesWrong)

/- THE SECOND FORM. 'bulk': how many values and letters a reading holds, each counted each time it is reached (what is shared counts as often as it is met; a slice's spare places count too). A statement '..UptoSaid' is the law's where the arguments, and the package variables that the reading takes, are together of bulk at most 1048576: NARROWER than '..Said'. Prove '..Said' where nothing that the law and all that it calls make is longer than what came in: it says more and counts as full. Else prove '..UptoSaid'. A law counts once. -/
mutual
def uptoBulk {H : Type} : DataW H → Nat
  | .lit (.string bytes) => bytes.length + 1
  | .lit _ => 1
  | .nil => 1
  | .ptr d => uptoBulk d + 1
  | .slice elems spare => uptoBulkAll elems + uptoBulkAll spare + 1
  | .agg parts => uptoBulkAll parts + 1
  | .iface _ d => uptoBulk d + 1
  | .map entries => uptoBulkEntries entries + 1
  | .held _ => 1
def uptoBulkAll {H : Type} : List (DataW H) → Nat
  | [] => 0
  | d :: r => uptoBulk d + uptoBulkAll r
def uptoBulkEntries {H : Type} : List (Lit × DataW H) → Nat
  | [] => 0
  | x :: r => uptoBulkEntry x + uptoBulkEntries r
def uptoBulkEntry {H : Type} : Lit × DataW H → Nat
  | (.string bytes, d) => bytes.length + uptoBulk d + 1
  | (_, d) => uptoBulk d + 1
 end
def uptoSmall : (H : Type) → List (DataW H) → Bool := fun _ ds => decide (uptoBulkAll ds ≤ 1048576)
def OpenSpec.upto (s : _root_.Go.ChangeSpec) : _root_.Go.OpenSpec := { _root_.Go.OpenSpec.ofChange s with cond := some uptoSmall }

/-- 'dogwatchlaw08.BankNew', WHERE WHAT IT READS IS OF BULK AT MOST 1048576: true; the input reads as it did. -/
def bankNewUptoRow : OpenClaim := { program := "ytbaahogdgldcpaa", sum := "a35d59d6a4d8b9813046170296528d2b22def2281c8aa93ac20371bbf51c2a11", func := "dogwatch/dogwatchlaw08.BankNew", spec := "bankNew", inPlace := ["internal/bytealg.CountString", "internal/bytealg.IndexByteString", "internal/bytealg.IndexString"], unfollowed := true, recurses := true, named := ["internal/bytealg.MaxLen"], apart := false, narrowed := true }
def BankNewUptoSaid : Prop := bankNewUptoRow.holds Try.pinned (OpenSpec.upto bankNewSpec)

/-- 'dogwatchlaw08.BankPlaces', WHERE WHAT IT READS IS OF BULK AT MOST 1048576: true; the input reads as it did. -/
def bankPlacesUptoRow : OpenClaim := { program := "ytbaahogdgldcpaa", sum := "a35d59d6a4d8b9813046170296528d2b22def2281c8aa93ac20371bbf51c2a11", func := "dogwatch/dogwatchlaw08.BankPlaces", spec := "bankPlaces", inPlace := ["internal/bytealg.CountString", "internal/bytealg.IndexByteString", "internal/bytealg.IndexString"], unfollowed := true, recurses := true, named := ["internal/bytealg.MaxLen"], apart := false, narrowed := true }
def BankPlacesUptoSaid : Prop := bankPlacesUptoRow.holds Try.pinned (OpenSpec.upto bankPlacesSpec)

/-- 'dogwatchlaw08.BankApart', WHERE WHAT IT READS IS OF BULK AT MOST 1048576: true; the input reads as it did. -/
def bankApartUptoRow : OpenClaim := { program := "ytbaahogdgldcpaa", sum := "a35d59d6a4d8b9813046170296528d2b22def2281c8aa93ac20371bbf51c2a11", func := "dogwatch/dogwatchlaw08.BankApart", spec := "bankApart", inPlace := ["internal/bytealg.CountString", "internal/bytealg.IndexByteString", "internal/bytealg.IndexString"], unfollowed := true, recurses := true, named := ["internal/bytealg.MaxLen"], apart := false, narrowed := true }
def BankApartUptoSaid : Prop := bankApartUptoRow.holds Try.pinned (OpenSpec.upto bankApartSpec)

/-- 'dogwatchlaw08.BankWrites', WHERE WHAT IT READS IS OF BULK AT MOST 1048576: true; the input reads as it did. -/
def bankWritesUptoRow : OpenClaim := { program := "ytbaahogdgldcpaa", sum := "a35d59d6a4d8b9813046170296528d2b22def2281c8aa93ac20371bbf51c2a11", func := "dogwatch/dogwatchlaw08.BankWrites", spec := "bankWrites", inPlace := ["internal/bytealg.CountString", "internal/bytealg.IndexByteString", "internal/bytealg.IndexString"], unfollowed := true, recurses := true, named := ["internal/bytealg.MaxLen"], apart := false, narrowed := true }
def BankWritesUptoSaid : Prop := bankWritesUptoRow.holds Try.pinned (OpenSpec.upto bankWritesSpec)

end Rows
end Go.Proofs.Ytbaahogdgldcpaa
