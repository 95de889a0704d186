/-
  DERIVED. GIVEN WITH THE SEED: THE CARDS: each row of YtebkeocpojlepaaGreatDoorRows.lean that lists a variable, with what it lists TIED to the program's text (the seventh form; the later family's looks); each row that meets fmt, with fmt's text TOLD by the authors' own Lean function (tested against real Go, not proved from fmt's source: count such statements apart). THE CARD IS WHAT COUNTS. Prove the row's statement (the work); the ties are given (YtebkeocpojlepaaGreatDoorTie.lean); close each card by the builder's one call (the guide's Derived/Test/ToyasCard.lean, 'card_holds'). Laid BY PROGRAM, IN A SANDBOX (cutbox-door.mjs). By AI agents, Wed Nov 11 2026. No macro, syntax, notation, axiom, sorry.
-/
import Derived.Test.YtebkeocpojlepaaGreatDoorRows
import GoSem.ClaimSeven
namespace Go.Proofs.YtebkeocpojlepaaGreatDoor
namespace Rows

/-- THE TIED CARD OF 'dogwatchtop.TopEach'. -/
def topEachCard : Claim7 := { stood := { row := topEachRow, standIns := [], harness := (true, "c100a7ffd5012980f3c73e7f444d2b8e44450c690371900f445d83c0d3870785"), looks := true }, kinds := [], alts := [], laidByText := true, laidKinds := [.data], laidTests := true, laidLooks := .later }
def TopEachCardSaid : Prop := Claim7.holds Tryz.pinned (.plain (OpenSpec.ofChange topEachSpec)) topEachCard

/-- THE TIED CARD OF 'dogwatchtop.TopTwice'. -/
def topTwiceCard : Claim7 := { stood := { row := topTwiceRow, standIns := [], harness := (true, "c100a7ffd5012980f3c73e7f444d2b8e44450c690371900f445d83c0d3870785"), looks := true }, kinds := [], alts := [], laidByText := true, laidKinds := [.data], laidTests := true, laidLooks := .later }
def TopTwiceCardSaid : Prop := Claim7.holds Tryz.pinned (.plain (OpenSpec.ofChange topTwiceSpec)) topTwiceCard

/-- THE TIED CARD OF 'dogwatchtop.TopArmed'. -/
def topArmedCard : Claim7 := { stood := { row := topArmedRow, standIns := [], harness := (true, "c100a7ffd5012980f3c73e7f444d2b8e44450c690371900f445d83c0d3870785"), looks := true }, kinds := [], alts := [], laidByText := true, laidKinds := [.data], laidTests := true, laidLooks := .later }
def TopArmedCardSaid : Prop := Claim7.holds Tryz.pinned (.plain (OpenSpec.ofChange topArmedSpec)) topArmedCard

/-- THE SECOND FORM's CARD OF 'dogwatchtop.TopEach'. -/
def topEachUptoCard : Claim7 := { stood := { row := topEachUptoRow, standIns := [], harness := (true, "c100a7ffd5012980f3c73e7f444d2b8e44450c690371900f445d83c0d3870785"), looks := true }, kinds := [], alts := [], laidByText := true, laidKinds := [.data], laidTests := true, laidLooks := .later }
def TopEachUptoCardSaid : Prop := Claim7.holds Tryz.pinned (.plain (OpenSpec.upto topEachSpec)) topEachUptoCard

/-- THE SECOND FORM's CARD OF 'dogwatchtop.TopTwice'. -/
def topTwiceUptoCard : Claim7 := { stood := { row := topTwiceUptoRow, standIns := [], harness := (true, "c100a7ffd5012980f3c73e7f444d2b8e44450c690371900f445d83c0d3870785"), looks := true }, kinds := [], alts := [], laidByText := true, laidKinds := [.data], laidTests := true, laidLooks := .later }
def TopTwiceUptoCardSaid : Prop := Claim7.holds Tryz.pinned (.plain (OpenSpec.upto topTwiceSpec)) topTwiceUptoCard

/-- THE SECOND FORM's CARD OF 'dogwatchtop.TopArmed'. -/
def topArmedUptoCard : Claim7 := { stood := { row := topArmedUptoRow, standIns := [], harness := (true, "c100a7ffd5012980f3c73e7f444d2b8e44450c690371900f445d83c0d3870785"), looks := true }, kinds := [], alts := [], laidByText := true, laidKinds := [.data], laidTests := true, laidLooks := .later }
def TopArmedUptoCardSaid : Prop := Claim7.holds Tryz.pinned (.plain (OpenSpec.upto topArmedSpec)) topArmedUptoCard
end Rows
end Go.Proofs.YtebkeocpojlepaaGreatDoor
