/- A region that draws its order, whose own operations only read, and whose callees make memory but change nothing below block B: walked once. (Over the library's theorem wp_region_quiet, at the class of worlds that are below B as the one world was.) -/
import Derived.WalkKit
import Derived.BigQuiet
import Derived.Deep.QuietTactic
import Derived.Lib.Hide
namespace Go.Proofs.Ytclhdgolcaacbaa
open Go.RowKit

theorem bthen {w w1 w2 : World} (h1 : Below w.heap.size w w1) (h2 : Below w1.heap.size w1 w2) : Below w.heap.size w w2 := h1.trans (h2.mono h1.size)
theorem bdrew {B : Nat} {w w1 : World} (h1 : Below B w w1) (n : Nat) : Below B w (w1.drewN n) := ⟨h1.os, h1.tape, h1.output, h1.size, h1.block⟩
theorem ret_int {k : IntKind} {a b : Int} (h : a = b) : Ending.returned (.int k a) = .returned (.int k b) := by rw [h]
theorem ret_bool {a b : Bool} (h : a = b) : Ending.returned (.bool a) = .returned (.bool b) := by rw [h]

/-- a world that is below B as W was -/
structure CalmW (B : Nat) (W : World) where
  val : World
  below : Below B W val

instance calmNonempty (B : Nat) (W : World) : Nonempty (CalmW B W) := ⟨⟨W, Below.refl _ _⟩⟩

theorem wp_region_calm (B : Nat) {P : Program} {id : Nat} {Q : Exit → Act → World → Prop} {a : Act} {w : World} {l : List Oper} (hm : P.follows .mixedOrders = true) (hB : Region.lexB .any l.toArray = true)
    (h : wpQuiet P l.toArray (fun w' => ∃ n : CalmW B w, w' = n.val) (fun a' => ∀ w', (∃ n : CalmW B w, w' = n.val) → Q .normal a' w') l a) : (Code.region id l.toArray true).wp P Q a w :=
  wp_region_quiet (C := fun w' => ∃ n : CalmW B w, w' = n.val) hm hB ⟨⟨_, (Below.refl B w).drew⟩, rfl⟩ (by simpa using h)

/-- A callee's contract, met in a world of the class. -/
theorem calm_of {P : Program} {f : FuncId} {args : Array Value} {B : Nat} {w : World} {n : CalmW B w} {v : Value} (hB : B ≤ w.heap.size)
    (h : Calls P f args n.val fun e w' => e = .returned v ∧ Below n.val.heap.size n.val w') : Calls P f args n.val fun e w'' => e = .returned v ∧ ∃ m : CalmW B w, w'' = m.val :=
  h.mono fun _ w' ⟨he, hb⟩ => ⟨he, ⟨w', n.below.trans (hb.mono (Nat.le_trans hB n.below.size))⟩, rfl⟩

theorem calm_same {P : Program} {f : FuncId} {args : Array Value} {B : Nat} {w : World} {n : CalmW B w} {v : Value}
    (h : Calls P f args n.val fun e w' => e = .returned v ∧ n.val = w') : Calls P f args n.val fun e w'' => e = .returned v ∧ ∃ m : CalmW B w, w'' = m.val :=
  h.mono fun _ _ ⟨he, hb⟩ => ⟨he, n, hb.symm⟩

end Go.Proofs.Ytclhdgolcaacbaa
