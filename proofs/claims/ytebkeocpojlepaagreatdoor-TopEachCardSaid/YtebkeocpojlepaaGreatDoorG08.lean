/- Contracts and plain laws, put together: Table. -/
import Derived.Test.YtebkeocpojlepaaGreatDoorG07
import Derived.Deep.WholeRow
/- Package table. -/
namespace Go.Proofs.YtebkeocpojlepaaGreatDoor
open Go.RowKit
set_option linter.unusedVariables false
set_option linter.unusedSimpArgs false

def modeB (m : Int) : Bool := decide (0 ≤ m) && decide (m ≤ 5)
def wayB (f t : Int) : Bool := modeB f && modeB t && (decide (f = t) || (if f = 0 then decide (t = 1) else if f = 1 then true else if f = 2 ∨ f = 3 then decide (t ≠ 0) else if f = 4 then decide (t = 1 ∨ t = 2 ∨ t = 5) else decide (t = 1 ∨ t = 0)))
def needsI (m : Int) : Int := if m = 1 ∨ m = 5 then 1 else if m = 2 ∨ m = 4 then 2 else if m = 3 then 3 else 0
def homeB (m : Int) : Bool := decide (m = 3 ∨ m = 4)
def flyB (m : Int) : Bool := modeB m && decide (m ≠ 0)
theorem needs_le (m : Int) : 0 ≤ needsI m ∧ needsI m ≤ 3 := by unfold needsI; repeat' split <;> omega
theorem fly_needs (m : Int) : decide (0 < needsI m) = flyB m := by
  unfold flyB modeB needsI
  rw [Bool.eq_iff_iff]
  simp only [Bool.and_eq_true, decide_eq_true_eq]
  repeat' split <;> omega

abbrev rowC (m : Int) : Array Value := #[.bool (wayB m 0), .bool (wayB m 1), .bool (wayB m 2), .bool (wayB m 3), .bool (wayB m 4), .bool (wayB m 5), .int .i64 (needsI m), .bool (homeB m)]
abbrev tableC : Array Value := #[.bool true, .bool true, .bool false, .bool false, .bool false, .bool false, .int .i64 0, .bool false,
  .bool true, .bool true, .bool true, .bool true, .bool true, .bool true, .int .i64 1, .bool false,
  .bool false, .bool true, .bool true, .bool true, .bool true, .bool true, .int .i64 2, .bool false,
  .bool false, .bool true, .bool true, .bool true, .bool true, .bool true, .int .i64 3, .bool true,
  .bool false, .bool true, .bool true, .bool false, .bool true, .bool true, .int .i64 2, .bool true,
  .bool true, .bool true, .bool false, .bool false, .bool false, .bool true, .int .i64 1, .bool false]

abbrev zeroC : Array Value := #[.bool false, .bool false, .bool false, .bool false, .bool false, .bool false, .int .i64 0, .bool false,
  .bool false, .bool false, .bool false, .bool false, .bool false, .bool false, .int .i64 0, .bool false,
  .bool false, .bool false, .bool false, .bool false, .bool false, .bool false, .int .i64 0, .bool false,
  .bool false, .bool false, .bool false, .bool false, .bool false, .bool false, .int .i64 0, .bool false,
  .bool false, .bool false, .bool false, .bool false, .bool false, .bool false, .int .i64 0, .bool false,
  .bool false, .bool false, .bool false, .bool false, .bool false, .bool false, .int .i64 0, .bool false]

set_option maxRecDepth 100000 in
set_option maxHeartbeats 4000000 in
theorem table_any (w : World) : Calls Tryz.prog 105 #[] w fun e w' => e = .returned (.agg tableC) ∧ Below w.heap.size w w' := by
  obtain ⟨X, hX⟩ : ∃ X, X = tableC := ⟨_, rfl⟩
  have hi : (Tryz.prog.info? 180).map (·.size) = some X.size := by rw [hX]; kernel_rfl
  have hz : zeroC.size = X.size := by rw [hX]; rfl
  have h1 : X.all (·.oneCell') = true := by rw [hX]; kernel_rfl
  have kN := Blk.new w 180 zeroC
  go_enter Tryz.func105, Tryz.ntmps105
  go_wp2_with (first | (refine wpList_store_row rfl 180 (.tmp 0) (.tmp 13) rfl w.heap.size X rfl (by rw [hX]; rfl) 180 zeroC kN hi hz h1 ?_))
  rw [World.setRow_alloc_new]
  refine bodyPost_ret (v := .agg X) (results_cell_row rfl _ _ w.heap.size 180 X (0, 0) _ rfl (heap_alloc_new w _) Tryz.underlying180 rfl hi) rfl ⟨by rw [hX], (Below.refl _ w).alloc (Nat.le_refl _) _⟩

theorem row_zero (m : Int) (h : ¬ (0 ≤ m ∧ m ≤ 5)) : rowC m = #[.bool false, .bool false, .bool false, .bool false, .bool false, .bool false, .int .i64 0, .bool false] := by
  have h1 : modeB m = false := by unfold modeB; rw [Bool.and_eq_false_iff]; simp; omega
  have h2 : needsI m = 0 := by unfold needsI; repeat' split <;> omega
  have h3 : homeB m = false := by unfold homeB; simp; omega
  have h4 : ∀ t, wayB m t = false := fun t => by unfold wayB; rw [h1]; rfl
  unfold rowC; rw [h2, h3, h4, h4, h4, h4, h4, h4]

theorem idx0 (w : World) : (Instr.index 180 (.agg tableC) (.int .i64 0)).run Tryz.prog w = .ok (.agg (rowC 0)) w := by kernel_rfl
theorem idx1 (w : World) : (Instr.index 180 (.agg tableC) (.int .i64 1)).run Tryz.prog w = .ok (.agg (rowC 1)) w := by kernel_rfl
theorem idx2 (w : World) : (Instr.index 180 (.agg tableC) (.int .i64 2)).run Tryz.prog w = .ok (.agg (rowC 2)) w := by kernel_rfl
theorem idx3 (w : World) : (Instr.index 180 (.agg tableC) (.int .i64 3)).run Tryz.prog w = .ok (.agg (rowC 3)) w := by kernel_rfl
theorem idx4 (w : World) : (Instr.index 180 (.agg tableC) (.int .i64 4)).run Tryz.prog w = .ok (.agg (rowC 4)) w := by kernel_rfl
theorem idx5 (w : World) : (Instr.index 180 (.agg tableC) (.int .i64 5)).run Tryz.prog w = .ok (.agg (rowC 5)) w := by kernel_rfl

end Go.Proofs.YtebkeocpojlepaaGreatDoor
