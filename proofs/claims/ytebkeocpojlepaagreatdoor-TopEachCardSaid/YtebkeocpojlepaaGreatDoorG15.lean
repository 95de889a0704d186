/- Contracts and plain laws, put together: Mid. -/
import Derived.RangeFuncNested
import Derived.RangeFuncBound
import Derived.RangeFuncCalls
import Derived.RangeFuncLeaves
import Derived.Shelf.Abstract
import Derived.Shelf.RegionOpen
import Derived.WalkKit
import Derived.OwnWalkIn
import Derived.Test.YtebkeocpojlepaaGreatDoorG07
/- The first numbers; worlds between two bounds; blocks that are kept. -/
namespace Go.Proofs.YtebkeocpojlepaaGreatDoor
open Go.RowKit Go.Shelf
set_option linter.unusedVariables false

/-- the first k places -/
def ups (n k : Nat) : List (Fin n) := (List.finRange n).take k
theorem ups_succ (n k : Nat) (h : k < n) : ups n (k + 1) = ups n k ++ [⟨k, h⟩] := by
  unfold ups; rw [List.take_succ_eq_append_getElem (by simpa using h)]; simp
theorem ups_length (n k : Nat) (h : k ≤ n) : (ups n k).length = k := by simp [ups, h]

theorem grown_of_below {w w' : World} (h : Below w.heap.size w w') : w.grownBy w' none := ⟨h.os, h.tape, h.output, h.size, fun k hk _ => h.block k hk⟩

/-- the blocks from lo to hi are as they were -/
def Mid (lo hi : Nat) (W W' : World) : Prop := W.heap.size ≤ W'.heap.size ∧ ∀ k, lo ≤ k → k < hi → W'.heap[k]? = W.heap[k]?
theorem Mid.refl (lo hi : Nat) (W : World) : Mid lo hi W W := ⟨Nat.le_refl _, fun _ _ _ => rfl⟩
theorem Mid.trans {lo hi : Nat} {A B C : World} (h : Mid lo hi A B) (k : Mid lo hi B C) : Mid lo hi A C := ⟨Nat.le_trans h.1 k.1, fun i h1 h2 => (k.2 i h1 h2).trans (h.2 i h1 h2)⟩
theorem Mid.cell {lo hi : Nat} {W W' : World} (h : Mid lo hi W W') {p : Addr} (h1 : lo ≤ p.block) (h2 : p.block < hi) : W'.cell? p = W.cell? p := World.cell?_of_block (w := W) (h.2 p.block h1 h2)
theorem Mid.of_below {lo hi B : Nat} {W W' : World} (h : Below B W W') (hB : hi ≤ B) : Mid lo hi W W' := ⟨h.size, fun k _ h2 => h.block k (by omega)⟩
theorem Mid.setCell {lo hi : Nat} {A W : World} (h : Mid lo hi A W) (p : Addr) (hp : p.block < lo ∨ hi ≤ p.block) (v : Value) : Mid lo hi A (W.setCell p v) :=
  ⟨by rw [World.size_setCell]; exact h.1, fun k h1 h2 => (Below.heap_setCell W p v k (by omega)).trans (h.2 k h1 h2)⟩
theorem Mid.alloc {lo hi : Nat} {A W : World} (h : Mid lo hi A W) (hh : hi ≤ W.heap.size) (o : Obj) : Mid lo hi A (W.alloc o) := h.trans (Mid.of_below ((Below.refl W.heap.size W).alloc (Nat.le_refl _) o) hh)
theorem midK_b {lo hi s : Nat} (hs : hi ≤ s) (W : World) (l : Nat) (o o' : Obj) (hl : s ≤ l) (_ : W.heap[l]? = some o) (_ : o.isCells = false) (_ : o.isWalk = false) : Mid lo hi W (W.putObj l o') :=
  ⟨(grownBy_putObj' W l o').size, fun k _ h2 => World.putObj_heap_other (by omega)⟩


theorem blk_own {β : Type} (B : Nat) (t : TypeId) (f : β → Array Value) : Own (fun s W => Blk W B t (f s)) := fun s X Y row hs hg hrow =>
  (hg.block B (Blk.lt hs) (fun e => by
    obtain ⟨o, ho, hc⟩ := hrow B e.symm
    have hs' : X.heap[B]? = some (.cells (f s) t (0, 0)) := hs
    rw [hs'] at ho
    cases ho
    simp [Obj.isCells] at hc)).trans hs

end Go.Proofs.YtebkeocpojlepaaGreatDoor
