/-
  No cell of these rows narrows 'for every input' (looked for: loops, veiled, ifaces, maps, wideKeys, modest, calm, conditions, laid).
  DERIVED. THE GIVEN ROWS OF THIS SEAT. 5 by the template 'for every input the law returns true; each argument reads behind the call as it read before'; 0 by the template 'total and deterministic' (their statements: YtcabpaipmdblkaaTotals.lean).
  GIVEN WITH THE SEED: the statements are not yours to turn. If you find one false, say at which input.
  Laid BY PROGRAM, IN A SANDBOX (cutbox-rows.mjs): the forced cells as the released guide's own fill.sh prints them over the translation 2e66634065102a3c… (all of the seat's roots in one cut). By AI agents, Wed Nov 11 2026. No macro, syntax, notation, axiom, sorry.
-/
import Derived.Test.YtcabpaipmdblkaaChecked
import GoSem.Claim
import GoSem.ClaimJoined
import GoSem.ClaimMapViews
import Derived.JoinedTies
import Derived.KernelRfl
namespace Go.Proofs.Ytcabpaipmdblkaa
/- THE CELL 'sum', in the pinned program and in every row, IS THE sha256 OF THE DUMP (.gsa) THAT YtcabpaipmdblkaaProg.lean LOADS. Nothing in Lean hashes anything: it is a label: what it is worth is what the hold of that sum in a sandbox is worth. -/
noncomputable def Try.pinned : Pinned := { name := "ytcabpaipmdblkaa", sum := "2e66634065102a3c7016cb403753ff633e6d00c523b1763cde0e9c106f8a3d9d", checked := Try.checked }
namespace Rows
def none {H : Type} : Left H := { results := [], args := [] }

/-- 'dogwatchlaw05.LayoutTells': WHATEVER THE INPUT: true; the input reads as it did. -/
def layoutTellsSpec : ChangeSpec := { name := "layoutTells", fn := fun _ => fun
  | [d] => { results := [.lit (.bool true)], args := [d] }
  | _ => none }
def layoutTellsRow : OpenClaim := { program := "ytcabpaipmdblkaa", sum := "2e66634065102a3c7016cb403753ff633e6d00c523b1763cde0e9c106f8a3d9d", func := "dogwatch/dogwatchlaw05.LayoutTells", spec := "layoutTells", apart := false }
def LayoutTellsSaid : Prop := layoutTellsRow.holds Try.pinned (OpenSpec.ofChange layoutTellsSpec)

/-- ITS FALSE NEIGHBOUR: 'it returns false'. Refute it at one input. -/
def layoutTellsWrong : ChangeSpec := { name := "layoutTells", fn := fun _ => fun
  | [d] => { results := [.lit (.bool false)], args := [d] }
  | _ => none }
def LayoutTellsWrongFalsely : Prop := layoutTellsRow.holds Try.pinned (OpenSpec.ofChange layoutTellsWrong)

/-- 'dogwatchlaw05.LayoutBack': WHATEVER THE INPUT: true; the input reads as it did. -/
def layoutBackSpec : ChangeSpec := { name := "layoutBack", fn := fun _ => fun
  | [d] => { results := [.lit (.bool true)], args := [d] }
  | _ => none }
def layoutBackRow : OpenClaim := { program := "ytcabpaipmdblkaa", sum := "2e66634065102a3c7016cb403753ff633e6d00c523b1763cde0e9c106f8a3d9d", func := "dogwatch/dogwatchlaw05.LayoutBack", spec := "layoutBack", apart := false }
def LayoutBackSaid : Prop := layoutBackRow.holds Try.pinned (OpenSpec.ofChange layoutBackSpec)

/-- ITS FALSE NEIGHBOUR: 'it returns false'. Refute it at one input. -/
def layoutBackWrong : ChangeSpec := { name := "layoutBack", fn := fun _ => fun
  | [d] => { results := [.lit (.bool false)], args := [d] }
  | _ => none }
def LayoutBackWrongFalsely : Prop := layoutBackRow.holds Try.pinned (OpenSpec.ofChange layoutBackWrong)

/-- 'dogwatchlaw05.LayoutApart': WHATEVER THE INPUT: true; the input reads as it did. -/
def layoutApartSpec : ChangeSpec := { name := "layoutApart", fn := fun _ => fun
  | [d1, d2, d3] => { results := [.lit (.bool true)], args := [d1, d2, d3] }
  | _ => none }
def layoutApartRow : OpenClaim := { program := "ytcabpaipmdblkaa", sum := "2e66634065102a3c7016cb403753ff633e6d00c523b1763cde0e9c106f8a3d9d", func := "dogwatch/dogwatchlaw05.LayoutApart", spec := "layoutApart", apart := false }
def LayoutApartSaid : Prop := layoutApartRow.holds Try.pinned (OpenSpec.ofChange layoutApartSpec)

/-- ITS FALSE NEIGHBOUR: 'it returns false'. Refute it at one input. -/
def layoutApartWrong : ChangeSpec := { name := "layoutApart", fn := fun _ => fun
  | [d1, d2, d3] => { results := [.lit (.bool false)], args := [d1, d2, d3] }
  | _ => none }
def LayoutApartWrongFalsely : Prop := layoutApartRow.holds Try.pinned (OpenSpec.ofChange layoutApartWrong)

/-- 'dogwatchlaw05.LayoutNext': WHATEVER THE INPUT: true; the input reads as it did. -/
def layoutNextSpec : ChangeSpec := { name := "layoutNext", fn := fun _ => fun
  | [d] => { results := [.lit (.bool true)], args := [d] }
  | _ => none }
def layoutNextRow : OpenClaim := { program := "ytcabpaipmdblkaa", sum := "2e66634065102a3c7016cb403753ff633e6d00c523b1763cde0e9c106f8a3d9d", func := "dogwatch/dogwatchlaw05.LayoutNext", spec := "layoutNext", apart := false }
def LayoutNextSaid : Prop := layoutNextRow.holds Try.pinned (OpenSpec.ofChange layoutNextSpec)

/-- ITS FALSE NEIGHBOUR: 'it returns false'. Refute it at one input. -/
def layoutNextWrong : ChangeSpec := { name := "layoutNext", fn := fun _ => fun
  | [d] => { results := [.lit (.bool false)], args := [d] }
  | _ => none }
def LayoutNextWrongFalsely : Prop := layoutNextRow.holds Try.pinned (OpenSpec.ofChange layoutNextWrong)

/-- 'dogwatchlaw05.LayoutRises': WHATEVER THE INPUT: true; the input reads as it did. -/
def layoutRisesSpec : ChangeSpec := { name := "layoutRises", fn := fun _ => fun
  | [d1, d2] => { results := [.lit (.bool true)], args := [d1, d2] }
  | _ => none }
def layoutRisesRow : OpenClaim := { program := "ytcabpaipmdblkaa", sum := "2e66634065102a3c7016cb403753ff633e6d00c523b1763cde0e9c106f8a3d9d", func := "dogwatch/dogwatchlaw05.LayoutRises", spec := "layoutRises", apart := false }
def LayoutRisesSaid : Prop := layoutRisesRow.holds Try.pinned (OpenSpec.ofChange layoutRisesSpec)

/-- ITS FALSE NEIGHBOUR: 'it returns false'. Refute it at one input. -/
def layoutRisesWrong : ChangeSpec := { name := "layoutRises", fn := fun _ => fun
  | [d1, d2] => { results := [.lit (.bool false)], args := [d1, d2] }
  | _ => none }
def LayoutRisesWrongFalsely : Prop := layoutRisesRow.holds Try.pinned (OpenSpec.ofChange layoutRisesWrong)

/- THE SECOND FORM. 'bulk': how many values and letters a reading holds, each counted each time it is reached (what is shared counts as often as it is met; a slice's spare places count too). A statement '..UptoSaid' is the law's where the arguments, and the package variables that the reading takes, are together of bulk at most 1048576: NARROWER than '..Said'. Prove '..Said' where nothing that the law and all that it calls make is longer than what came in: it says more and counts as full. Else prove '..UptoSaid'. A law counts once. -/
mutual
def uptoBulk {H : Type} : DataW H → Nat
  | .lit (.string bytes) => bytes.length + 1
  | .lit _ => 1
  | .nil => 1
  | .ptr d => uptoBulk d + 1
  | .slice elems spare => uptoBulkAll elems + uptoBulkAll spare + 1
  | .agg parts => uptoBulkAll parts + 1
  | .iface _ d => uptoBulk d + 1
  | .map entries => uptoBulkEntries entries + 1
  | .held _ => 1
def uptoBulkAll {H : Type} : List (DataW H) → Nat
  | [] => 0
  | d :: r => uptoBulk d + uptoBulkAll r
def uptoBulkEntries {H : Type} : List (Lit × DataW H) → Nat
  | [] => 0
  | x :: r => uptoBulkEntry x + uptoBulkEntries r
def uptoBulkEntry {H : Type} : Lit × DataW H → Nat
  | (.string bytes, d) => bytes.length + uptoBulk d + 1
  | (_, d) => uptoBulk d + 1
 end
def uptoSmall : (H : Type) → List (DataW H) → Bool := fun _ ds => decide (uptoBulkAll ds ≤ 1048576)
def OpenSpec.upto (s : _root_.Go.ChangeSpec) : _root_.Go.OpenSpec := { _root_.Go.OpenSpec.ofChange s with cond := some uptoSmall }

/-- 'dogwatchlaw05.LayoutTells', WHERE WHAT IT READS IS OF BULK AT MOST 1048576: true; the input reads as it did. -/
def layoutTellsUptoRow : OpenClaim := { program := "ytcabpaipmdblkaa", sum := "2e66634065102a3c7016cb403753ff633e6d00c523b1763cde0e9c106f8a3d9d", func := "dogwatch/dogwatchlaw05.LayoutTells", spec := "layoutTells", apart := false, narrowed := true }
def LayoutTellsUptoSaid : Prop := layoutTellsUptoRow.holds Try.pinned (OpenSpec.upto layoutTellsSpec)

/-- 'dogwatchlaw05.LayoutBack', WHERE WHAT IT READS IS OF BULK AT MOST 1048576: true; the input reads as it did. -/
def layoutBackUptoRow : OpenClaim := { program := "ytcabpaipmdblkaa", sum := "2e66634065102a3c7016cb403753ff633e6d00c523b1763cde0e9c106f8a3d9d", func := "dogwatch/dogwatchlaw05.LayoutBack", spec := "layoutBack", apart := false, narrowed := true }
def LayoutBackUptoSaid : Prop := layoutBackUptoRow.holds Try.pinned (OpenSpec.upto layoutBackSpec)

/-- 'dogwatchlaw05.LayoutApart', WHERE WHAT IT READS IS OF BULK AT MOST 1048576: true; the input reads as it did. -/
def layoutApartUptoRow : OpenClaim := { program := "ytcabpaipmdblkaa", sum := "2e66634065102a3c7016cb403753ff633e6d00c523b1763cde0e9c106f8a3d9d", func := "dogwatch/dogwatchlaw05.LayoutApart", spec := "layoutApart", apart := false, narrowed := true }
def LayoutApartUptoSaid : Prop := layoutApartUptoRow.holds Try.pinned (OpenSpec.upto layoutApartSpec)

/-- 'dogwatchlaw05.LayoutNext', WHERE WHAT IT READS IS OF BULK AT MOST 1048576: true; the input reads as it did. -/
def layoutNextUptoRow : OpenClaim := { program := "ytcabpaipmdblkaa", sum := "2e66634065102a3c7016cb403753ff633e6d00c523b1763cde0e9c106f8a3d9d", func := "dogwatch/dogwatchlaw05.LayoutNext", spec := "layoutNext", apart := false, narrowed := true }
def LayoutNextUptoSaid : Prop := layoutNextUptoRow.holds Try.pinned (OpenSpec.upto layoutNextSpec)

/-- 'dogwatchlaw05.LayoutRises', WHERE WHAT IT READS IS OF BULK AT MOST 1048576: true; the input reads as it did. -/
def layoutRisesUptoRow : OpenClaim := { program := "ytcabpaipmdblkaa", sum := "2e66634065102a3c7016cb403753ff633e6d00c523b1763cde0e9c106f8a3d9d", func := "dogwatch/dogwatchlaw05.LayoutRises", spec := "layoutRises", apart := false, narrowed := true }
def LayoutRisesUptoSaid : Prop := layoutRisesUptoRow.holds Try.pinned (OpenSpec.upto layoutRisesSpec)

end Rows
end Go.Proofs.Ytcabpaipmdblkaa
