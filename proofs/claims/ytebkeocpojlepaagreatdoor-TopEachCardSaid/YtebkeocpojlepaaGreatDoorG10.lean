/- Contracts and plain laws, put together: RowsK, TableOf, Ref15, Ones, Sound, Resolve, Legal, Unpack, Ref16, RefH, RefD, Pack, Fits. -/
import Derived.Test.YtebkeocpojlepaaGreatDoorG07
import Derived.Deep.WholeRow
import Derived.Laws.CopyOwn
import Derived.Test.YtebkeocpojlepaaGreatDoorG08
import Derived.IntWalk
/- Whole rows: a struct loaded from a block, stored into one. -/
namespace Go.Proofs.YtebkeocpojlepaaGreatDoor
open Go.RowKit

theorem Blk.row {W : World} {B : Nat} {t : TypeId} {cs : Array Value} (h : Blk W B t cs) (c2 : Array Value) : Blk (W.setRow B c2) B t c2 := setRow_heap W B cs c2 t (0, 0) h
theorem Blk.rowOther {W : World} {B : Nat} {t : TypeId} {cs : Array Value} (h : Blk W B t cs) (g : Nat) (hg : B ≠ g) (c2 : Array Value) : Blk (W.setRow g c2) B t cs := (setRow_other W g B c2 hg).trans h
theorem bel_row {B : Nat} {w W : World} (h : Below B w W) (g : Nat) (hg : B ≤ g) (cs : Array Value) : Below B w (W.setRow g cs) := below_setRow h hg cs
end Go.Proofs.YtebkeocpojlepaaGreatDoor

/- table.of and what it serves. -/
namespace Go.Proofs.YtebkeocpojlepaaGreatDoor
open Go.RowKit
set_option linter.unusedVariables false
set_option linter.unusedSimpArgs false

set_option maxHeartbeats 4000000 in
theorem of_any (m : Int) (w : World) : Calls Tryz.prog 83 #[.int .i64 m] w fun e w' => e = .returned (.agg (rowC m)) ∧ Below w.heap.size w w' := by
  obtain ⟨X, hX⟩ : ∃ X, X = rowC m := ⟨_, rfl⟩
  have hone : X.all (·.oneCell') = true := by rw [hX]; kernel_rfl
  have k0 := Blk.new w 149 #[.bool false, .bool false, .bool false, .bool false, .bool false, .bool false, .int .i64 0, .bool false]
  have B0 : Below w.heap.size w (w.alloc (.cells #[.bool false, .bool false, .bool false, .bool false, .bool false, .bool false, .int .i64 0, .bool false] 149)) := (Below.refl _ w).alloc (Nat.le_refl _) _
  by_cases h : 0 ≤ m ∧ m ≤ 5
  · obtain ⟨h1, h2⟩ := h
    obtain ⟨v0, v1, v2, v3, v4, v5, v6, v7, hV⟩ : ∃ v0 v1 v2 v3 v4 v5 v6 v7, X = #[v0, v1, v2, v3, v4, v5, v6, v7] := ⟨_, _, _, _, _, _, _, _, hX⟩
    have hidx : ∀ w : World, (Instr.index 180 (.agg tableC) (.int .i64 m)).run Tryz.prog w = .ok (.agg X) w := by
      have hm : m = 0 ∨ m = 1 ∨ m = 2 ∨ m = 3 ∨ m = 4 ∨ m = 5 := by omega
      rcases hm with rfl | rfl | rfl | rfl | rfl | rfl <;> rw [hX]
      · exact idx0
      · exact idx1
      · exact idx2
      · exact idx3
      · exact idx4
      · exact idx5
    have d1 : decide (0 ≤ m) = true := by simpa using h1
    have d2 : decide (m < 6) = true := by simp; omega
    have HX := Lib.hid hX
    have HV := Lib.hid hV
    clear h1 h2 hX hV
    have htb := table_any
    generalize tableC = T at *
    rw [← HX.out]
    clear HX
    go_enter Tryz.func83, Tryz.ntmps83
    go_wp2_with (with_reducible refine (htb _).mono ?_)
    rintro e w1 ⟨rfl, b1⟩
    have k1 := k0.below b1 k0.lt
    have B1 := bthen B0 b1
    clear k0 B0 b1
    have hi : (Tryz.prog.info? 149).map (·.size) = some X.size := by rw [HV.out]; kernel_rfl
    have hz : (#[.bool false, .bool false, .bool false, .bool false, .bool false, .bool false, .int .i64 0, .bool false] : Array Value).size = X.size := by rw [HV.out]; rfl
    have h1 : X.all (·.oneCell') = true := hone
    have k2 := k1.row X
    have k3 := k2.row X
    have B3 := bel_row (bel_row B1 w.heap.size (Nat.le_refl _) X) w.heap.size (Nat.le_refl _) X
    have HI := Lib.hid hi
    have HZ := Lib.hid hz
    clear hi hz
    go_wp2_with (first | (refine wpList_store_row rfl 149 (.tmp 2) (.tmp 11) rfl w.heap.size X rfl rfl 149 _ k1 HI.out HZ.out h1 ?_) | (refine wpList_load_row rfl 149 (.tmp 2) rfl w.heap.size rfl 149 X (0, 0) _ k2 Tryz.underlying149 rfl HI.out ?_) | (refine wpList_store_row rfl 149 (.tmp 2) (.tmp 12) rfl w.heap.size X rfl rfl 149 _ k2 HI.out rfl h1 ?_))
    exact bodyPost_ret (v := .agg X) (results_cell_row rfl _ _ w.heap.size 149 X (0, 0) _ rfl k3 Tryz.underlying149 rfl HI.out) rfl ⟨rfl, B3⟩
  · have d1 : decide (0 ≤ m) = false ∨ (decide (0 ≤ m) = true ∧ decide (m < 6) = false) := by
      by_cases h0 : 0 ≤ m
      · right; exact ⟨by simpa using h0, by simp; omega⟩
      · left; simpa using h0
    have hX2 := hX.trans (row_zero m h)
    subst hX2
    rw [← hX]
    clear hX h hone
    have k2 := k0.row #[.bool false, .bool false, .bool false, .bool false, .bool false, .bool false, .int .i64 0, .bool false]
    have B2 := bel_row B0 w.heap.size (Nat.le_refl _) #[.bool false, .bool false, .bool false, .bool false, .bool false, .bool false, .int .i64 0, .bool false]
    rcases d1 with d1 | ⟨d1, d2⟩
    all_goals
      go_enter Tryz.func83, Tryz.ntmps83
      go_wp2
      exact bodyPost_ret (v := .agg #[.bool false, .bool false, .bool false, .bool false, .bool false, .bool false, .int .i64 0, .bool false]) (by simp [results, Tryz.results83, go_sem]) rfl ⟨rfl, B0⟩

theorem ix0 (v0 v1 v2 v3 v4 v5 : Bool) (w : World) : (Instr.index 147 (.agg #[.bool v0, .bool v1, .bool v2, .bool v3, .bool v4, .bool v5]) (.int .i64 0)).run Tryz.prog w = .ok (.bool v0) w := by kernel_rfl
theorem ix1 (v0 v1 v2 v3 v4 v5 : Bool) (w : World) : (Instr.index 147 (.agg #[.bool v0, .bool v1, .bool v2, .bool v3, .bool v4, .bool v5]) (.int .i64 1)).run Tryz.prog w = .ok (.bool v1) w := by kernel_rfl
theorem ix2 (v0 v1 v2 v3 v4 v5 : Bool) (w : World) : (Instr.index 147 (.agg #[.bool v0, .bool v1, .bool v2, .bool v3, .bool v4, .bool v5]) (.int .i64 2)).run Tryz.prog w = .ok (.bool v2) w := by kernel_rfl
theorem ix3 (v0 v1 v2 v3 v4 v5 : Bool) (w : World) : (Instr.index 147 (.agg #[.bool v0, .bool v1, .bool v2, .bool v3, .bool v4, .bool v5]) (.int .i64 3)).run Tryz.prog w = .ok (.bool v3) w := by kernel_rfl
theorem ix4 (v0 v1 v2 v3 v4 v5 : Bool) (w : World) : (Instr.index 147 (.agg #[.bool v0, .bool v1, .bool v2, .bool v3, .bool v4, .bool v5]) (.int .i64 4)).run Tryz.prog w = .ok (.bool v4) w := by kernel_rfl
theorem ix5 (v0 v1 v2 v3 v4 v5 : Bool) (w : World) : (Instr.index 147 (.agg #[.bool v0, .bool v1, .bool v2, .bool v3, .bool v4, .bool v5]) (.int .i64 5)).run Tryz.prog w = .ok (.bool v5) w := by kernel_rfl
theorem fld0 (v0 v1 v2 v3 v4 v5 H : Bool) (N : Int) (w : World) : (Instr.field 149 (.agg #[.bool v0, .bool v1, .bool v2, .bool v3, .bool v4, .bool v5, .int .i64 N, .bool H]) 0).run Tryz.prog w = .ok (.agg #[.bool v0, .bool v1, .bool v2, .bool v3, .bool v4, .bool v5]) w := by kernel_rfl
theorem fld1 (v0 v1 v2 v3 v4 v5 H : Bool) (N : Int) (w : World) : (Instr.field 149 (.agg #[.bool v0, .bool v1, .bool v2, .bool v3, .bool v4, .bool v5, .int .i64 N, .bool H]) 1).run Tryz.prog w = .ok (.int .i64 N) w := by kernel_rfl
theorem fld2 (v0 v1 v2 v3 v4 v5 H : Bool) (N : Int) (w : World) : (Instr.field 149 (.agg #[.bool v0, .bool v1, .bool v2, .bool v3, .bool v4, .bool v5, .int .i64 N, .bool H]) 2).run Tryz.prog w = .ok (.bool H) w := by kernel_rfl
set_option maxRecDepth 100000 in
theorem Needs_any (m : Int) (w : World) : Calls Tryz.prog 61 #[.int .i64 m] w fun e w' => e = .returned (.int .i64 (needsI m)) ∧ Below w.heap.size w w' := by
  have h := of_any m
  unfold rowC at h
  generalize needsI m = N at *
  generalize homeB m = H at *
  generalize wayB m 0 = v0 at *
  generalize wayB m 1 = v1 at *
  generalize wayB m 2 = v2 at *
  generalize wayB m 3 = v3 at *
  generalize wayB m 4 = v4 at *
  generalize wayB m 5 = v5 at *
  have hfl := fld1 v0 v1 v2 v3 v4 v5 H N
  go_enter Tryz.func61, Tryz.ntmps61
  go_wp2_with (with_reducible refine (h _).mono ?_; rintro e w1 ⟨rfl, b1⟩)
  go_ret
  exact ⟨rfl, b1⟩
set_option maxRecDepth 100000 in
theorem tHome_any (m : Int) (w : World) : Calls Tryz.prog 59 #[.int .i64 m] w fun e w' => e = .returned (.bool (homeB m)) ∧ Below w.heap.size w w' := by
  have h := of_any m
  unfold rowC at h
  generalize needsI m = N at *
  generalize homeB m = H at *
  generalize wayB m 0 = v0 at *
  generalize wayB m 1 = v1 at *
  generalize wayB m 2 = v2 at *
  generalize wayB m 3 = v3 at *
  generalize wayB m 4 = v4 at *
  generalize wayB m 5 = v5 at *
  have hfl := fld2 v0 v1 v2 v3 v4 v5 H N
  go_enter Tryz.func59, Tryz.ntmps59
  go_wp2_with (with_reducible refine (h _).mono ?_; rintro e w1 ⟨rfl, b1⟩)
  go_ret
  exact ⟨rfl, b1⟩
set_option maxRecDepth 100000 in
theorem tFlying_any (m : Int) (w : World) : Calls Tryz.prog 102 #[.int .i64 m] w fun e w' => e = .returned (.bool (flyB m)) ∧ Below w.heap.size w w' := by
  have h := of_any m
  have hf := Lib.hid (fly_needs m)
  have hb := needs_le m
  unfold rowC at h
  generalize needsI m = N at *
  generalize flyB m = F at *
  generalize homeB m = H at *
  generalize wayB m 0 = v0 at *
  generalize wayB m 1 = v1 at *
  generalize wayB m 2 = v2 at *
  generalize wayB m 3 = v3 at *
  generalize wayB m 4 = v4 at *
  generalize wayB m 5 = v5 at *
  have hfl := fld1 v0 v1 v2 v3 v4 v5 H N
  go_enter Tryz.func102, Tryz.ntmps102
  go_wp2_with (with_reducible refine (h _).mono ?_; rintro e w1 ⟨rfl, b1⟩)
  go_ret
  exact ⟨ret_bool (by rw [← hf.out]), b1⟩
theorem way_out (f t : Int) (h : ¬ (0 ≤ t ∧ t ≤ 5)) : wayB f t = false := by
  have h1 : modeB t = false := by unfold modeB; rw [Bool.and_eq_false_iff]; simp; omega
  unfold wayB; rw [h1, Bool.and_false, Bool.false_and]
set_option maxRecDepth 100000 in
theorem tWay_any (f t : Int) (w : World) : Calls Tryz.prog 58 #[.int .i64 f, .int .i64 t] w fun e w' => e = .returned (.bool (wayB f t)) ∧ Below w.heap.size w w' := by
  by_cases h : 0 ≤ t ∧ t ≤ 5
  · have ht : t = 0 ∨ t = 1 ∨ t = 2 ∨ t = 3 ∨ t = 4 ∨ t = 5 := by omega
    have hO := of_any f
    unfold rowC at hO
    clear h
    rcases ht with rfl | rfl | rfl | rfl | rfl | rfl
    all_goals
      generalize needsI f = N at *
      generalize homeB f = H at *
      generalize wayB f 0 = v0 at *
      generalize wayB f 1 = v1 at *
      generalize wayB f 2 = v2 at *
      generalize wayB f 3 = v3 at *
      generalize wayB f 4 = v4 at *
      generalize wayB f 5 = v5 at *
      have hfl := fld0 v0 v1 v2 v3 v4 v5 H N
      have hi0 := ix0 v0 v1 v2 v3 v4 v5
      have hi1 := ix1 v0 v1 v2 v3 v4 v5
      have hi2 := ix2 v0 v1 v2 v3 v4 v5
      have hi3 := ix3 v0 v1 v2 v3 v4 v5
      have hi4 := ix4 v0 v1 v2 v3 v4 v5
      have hi5 := ix5 v0 v1 v2 v3 v4 v5
      go_enter Tryz.func58, Tryz.ntmps58
      go_wp2_with (with_reducible refine (hO _).mono ?_; rintro e w1 ⟨rfl, b1⟩)
      go_ret
      exact ⟨rfl, b1⟩
  · have d1 : decide (0 ≤ t) = false ∨ (decide (0 ≤ t) = true ∧ decide (t < 6) = false) := by
      by_cases h0 : 0 ≤ t
      · right; exact ⟨by simpa using h0, by simp; omega⟩
      · left; simpa using h0
    rw [way_out f t h]
    clear h
    rcases d1 with d1 | ⟨d1, d2⟩
    all_goals
      go_enter Tryz.func58, Tryz.ntmps58
      go_wp2
      go_ret
      exact ⟨rfl, Below.refl _ _⟩
end Go.Proofs.YtebkeocpojlepaaGreatDoor

/- dogwatchref15, dogwatchref14.Sound, state.Sound. -/
namespace Go.Proofs.YtebkeocpojlepaaGreatDoor
open Go.RowKit
set_option linter.unusedVariables false
set_option linter.unusedSimpArgs false

theorem r15mode (m : Int) (w : World) : Calls Tryz.prog 31 #[.int .i64 m] w fun e w' => e = .returned (.bool (modeB m)) ∧ w = w' := by
  have hM := Lib.hid (show modeB m = (decide (0 ≤ m) && decide (m ≤ 5)) from rfl)
  by_cases h0 : 0 ≤ m
  · have d0 : decide (0 ≤ m) = true := by simpa using h0
    have H0 := Lib.hid h0
    clear h0
    go_enter Tryz.func31, Tryz.ntmps31
    go_wp2
    go_ret
    exact ⟨ret_bool (by rw [hM.out]; simp [H0.out]), rfl⟩
  · have d0 : decide (0 ≤ m) = false := by simpa using h0
    have H0 := Lib.hid h0
    clear h0
    go_enter Tryz.func31, Tryz.ntmps31
    go_wp2
    go_ret
    exact ⟨ret_bool (by rw [hM.out]; simp; have := H0.out; omega), rfl⟩
theorem r15Home (m : Int) (w : World) : Calls Tryz.prog 32 #[.int .i64 m] w fun e w' => e = .returned (.bool (homeB m)) ∧ w = w' := by
  have hM := Lib.hid (show homeB m = (decide (m = 3) || decide (m = 4)) by unfold homeB; rw [Bool.decide_or])
  by_cases h3 : m = 3
  · subst h3
    go_enter Tryz.func32, Tryz.ntmps32
    go_wp2
    go_ret
    exact ⟨ret_bool (by rw [hM.out]; simp), rfl⟩
  · have n3 : (m == 3) = false := by simpa using h3
    have H3 := Lib.hid h3
    clear h3
    go_enter Tryz.func32, Tryz.ntmps32
    go_wp2
    go_ret
    exact ⟨ret_bool (by rw [hM.out]; have := H3.out; by_cases h4 : m = 4 <;> simp [this, h4]), rfl⟩
theorem r15Flying (m : Int) (w : World) : Calls Tryz.prog 15 #[.int .i64 m] w fun e w' => e = .returned (.bool (flyB m)) ∧ w = w' := by
  have hM := Lib.hid (show flyB m = (modeB m && decide (m ≠ 0)) from rfl)
  have hmo := r15mode m
  generalize modeB m = M at *
  cases M
  all_goals
    go_enter Tryz.func15, Tryz.ntmps15
    go_wp2_with (with_reducible refine (hmo _).mono ?_; rintro e w1 ⟨rfl, rfl⟩)
    go_ret
    exact ⟨ret_bool (by rw [hM.out]; by_cases h0 : m = 0 <;> simp [h0]), rfl⟩
theorem r15Needs (m : Int) (w : World) : Calls Tryz.prog 23 #[.int .i64 m] w fun e w' => e = .returned (.int .i64 (needsI m)) ∧ w = w' := by
  have hc : m = 1 ∨ m = 5 ∨ m = 2 ∨ m = 4 ∨ m = 3 ∨ (m ≠ 1 ∧ m ≠ 5 ∧ m ≠ 2 ∧ m ≠ 4 ∧ m ≠ 3) := by omega
  rcases hc with rfl | rfl | rfl | rfl | rfl | ⟨h1, h5, h2, h4, h3⟩
  case inr.inr.inr.inr.inr =>
    have hN : needsI m = 0 := by unfold needsI; rw [if_neg (by omega), if_neg (by omega), if_neg (by omega)]
    rw [hN]
    have n1 : (m == 1) = false := by simpa using h1
    have n2 : (m == 2) = false := by simpa using h2
    have n3 : (m == 3) = false := by simpa using h3
    have n4 : (m == 4) = false := by simpa using h4
    have n5 : (m == 5) = false := by simpa using h5
    clear h1 h2 h3 h4 h5 hN
    go_enter Tryz.func23, Tryz.ntmps23
    go_wp2
    go_ret
    exact ⟨rfl, rfl⟩
  all_goals
    go_enter Tryz.func23, Tryz.ntmps23
    go_wp2
    go_ret
    exact ⟨rfl, rfl⟩

theorem r15Way (f t : Int) (w : World) : Calls Tryz.prog 34 #[.int .i64 f, .int .i64 t] w fun e w' => e = .returned (.bool (wayB f t)) ∧ w = w' := by
  have h1 := r15mode f
  have h2 := r15mode t
  have hW : wayB f t = (modeB f && modeB t && (decide (f = t) || (if f = 0 then decide (t = 1) else if f = 1 then true else if f = 2 ∨ f = 3 then decide (t ≠ 0) else if f = 4 then decide (t = 1 ∨ t = 2 ∨ t = 5) else decide (t = 1 ∨ t = 0)))) := rfl
  have hMf : modeB f = true → (f = 0 ∨ f = 1 ∨ f = 2 ∨ f = 3 ∨ f = 4 ∨ f = 5) := fun h => by unfold modeB at h; rw [Bool.and_eq_true, decide_eq_true_eq, decide_eq_true_eq] at h; omega
  have hMt : modeB t = true → (t = 0 ∨ t = 1 ∨ t = 2 ∨ t = 3 ∨ t = 4 ∨ t = 5) := fun h => by unfold modeB at h; rw [Bool.and_eq_true, decide_eq_true_eq, decide_eq_true_eq] at h; omega
  cases hf : modeB f with
  | false =>
    rw [hf] at hW h1
    rw [hW, Bool.false_and, Bool.false_and]
    clear hW hMf hMt hf
    go_enter Tryz.func34, Tryz.ntmps34
    go_wp2_with (with_reducible refine (h1 _).mono ?_; rintro e w1 ⟨rfl, rfl⟩)
    go_ret
    exact ⟨rfl, rfl⟩
  | true =>
    cases ht : modeB t with
    | false =>
      rw [ht] at hW h2
      rw [hf] at h1
      rw [hW, Bool.and_false, Bool.false_and]
      clear hW hMf hMt hf ht
      go_enter Tryz.func34, Tryz.ntmps34
      go_wp2_with (first | (with_reducible refine (h1 _).mono ?_; rintro e w1 ⟨rfl, rfl⟩) | (with_reducible refine (h2 _).mono ?_; rintro e w1 ⟨rfl, rfl⟩))
      go_ret
      exact ⟨rfl, rfl⟩
    | true =>
      have cf := hMf hf
      have ct := hMt ht
      rw [hf] at h1
      rw [ht] at h2
      clear hW hMf hMt hf ht
      rcases cf with rfl | rfl | rfl | rfl | rfl | rfl <;> rcases ct with rfl | rfl | rfl | rfl | rfl | rfl
      all_goals
        go_enter Tryz.func34, Tryz.ntmps34
        go_wp2_with (first | (with_reducible refine (h1 _).mono ?_; rintro e w1 ⟨rfl, rfl⟩) | (with_reducible refine (h2 _).mono ?_; rintro e w1 ⟨rfl, rfl⟩))
        go_ret
        exact ⟨by first | rfl | (congr 2), rfl⟩
end Go.Proofs.YtebkeocpojlepaaGreatDoor

/- math/bits.OnesCount at 0 .. 15 (printed by wip/tools/mk_ones.py). -/
namespace Go.Proofs.YtebkeocpojlepaaGreatDoor
open Go.RowKit
set_option linter.unusedVariables false
set_option linter.unusedSimpArgs false

def pop4 (n : Nat) : Nat := n % 2 + n / 2 % 2 + n / 4 % 2 + n / 8 % 2

theorem ones64_0 (w : World) : Calls Tryz.prog 126 #[.int .u64 0] w fun e w' => e = .returned (.int .i64 0) ∧ w = w' := by
  have f0 : bits .and .u64 0 1085102592571150095 = 0 := by decide
  have f1 : bits .and .u64 0 3689348814741910323 = 0 := by decide
  have f2 : bits .and .u64 0 6148914691236517205 = 0 := by decide
  have g0 : bits .and .i64 0 127 = 0 := by decide
  go_enter Tryz.func126, Tryz.ntmps126
  go_wp2
  go_ret
  exact ⟨rfl, rfl⟩
theorem ones64_1 (w : World) : Calls Tryz.prog 126 #[.int .u64 1] w fun e w' => e = .returned (.int .i64 1) ∧ w = w' := by
  have f0 : bits .and .u64 0 3689348814741910323 = 0 := by decide
  have f1 : bits .and .u64 0 6148914691236517205 = 0 := by decide
  have f2 : bits .and .u64 1 1085102592571150095 = 1 := by decide
  have f3 : bits .and .u64 1 3689348814741910323 = 1 := by decide
  have f4 : bits .and .u64 1 6148914691236517205 = 1 := by decide
  have g0 : bits .and .i64 1 127 = 1 := by decide
  go_enter Tryz.func126, Tryz.ntmps126
  go_wp2
  go_ret
  exact ⟨rfl, rfl⟩
theorem ones64_2 (w : World) : Calls Tryz.prog 126 #[.int .u64 2] w fun e w' => e = .returned (.int .i64 1) ∧ w = w' := by
  have f0 : bits .and .u64 0 3689348814741910323 = 0 := by decide
  have f1 : bits .and .u64 1 1085102592571150095 = 1 := by decide
  have f2 : bits .and .u64 1 3689348814741910323 = 1 := by decide
  have f3 : bits .and .u64 1 6148914691236517205 = 1 := by decide
  have f4 : bits .and .u64 2 6148914691236517205 = 0 := by decide
  have g0 : bits .and .i64 1 127 = 1 := by decide
  go_enter Tryz.func126, Tryz.ntmps126
  go_wp2
  go_ret
  exact ⟨rfl, rfl⟩
theorem ones64_3 (w : World) : Calls Tryz.prog 126 #[.int .u64 3] w fun e w' => e = .returned (.int .i64 2) ∧ w = w' := by
  have f0 : bits .and .u64 0 3689348814741910323 = 0 := by decide
  have f1 : bits .and .u64 1 6148914691236517205 = 1 := by decide
  have f2 : bits .and .u64 2 1085102592571150095 = 2 := by decide
  have f3 : bits .and .u64 2 3689348814741910323 = 2 := by decide
  have f4 : bits .and .u64 3 6148914691236517205 = 1 := by decide
  have g0 : bits .and .i64 2 127 = 2 := by decide
  go_enter Tryz.func126, Tryz.ntmps126
  go_wp2
  go_ret
  exact ⟨rfl, rfl⟩
theorem ones64_4 (w : World) : Calls Tryz.prog 126 #[.int .u64 4] w fun e w' => e = .returned (.int .i64 1) ∧ w = w' := by
  have f0 : bits .and .u64 1 1085102592571150095 = 1 := by decide
  have f1 : bits .and .u64 1 3689348814741910323 = 1 := by decide
  have f2 : bits .and .u64 2 6148914691236517205 = 0 := by decide
  have f3 : bits .and .u64 4 3689348814741910323 = 0 := by decide
  have f4 : bits .and .u64 4 6148914691236517205 = 4 := by decide
  have g0 : bits .and .i64 1 127 = 1 := by decide
  go_enter Tryz.func126, Tryz.ntmps126
  go_wp2
  go_ret
  exact ⟨rfl, rfl⟩
theorem ones64_5 (w : World) : Calls Tryz.prog 126 #[.int .u64 5] w fun e w' => e = .returned (.int .i64 2) ∧ w = w' := by
  have f0 : bits .and .u64 1 3689348814741910323 = 1 := by decide
  have f1 : bits .and .u64 2 1085102592571150095 = 2 := by decide
  have f2 : bits .and .u64 2 6148914691236517205 = 0 := by decide
  have f3 : bits .and .u64 5 3689348814741910323 = 1 := by decide
  have f4 : bits .and .u64 5 6148914691236517205 = 5 := by decide
  have g0 : bits .and .i64 2 127 = 2 := by decide
  go_enter Tryz.func126, Tryz.ntmps126
  go_wp2
  go_ret
  exact ⟨rfl, rfl⟩
theorem ones64_6 (w : World) : Calls Tryz.prog 126 #[.int .u64 6] w fun e w' => e = .returned (.int .i64 2) ∧ w = w' := by
  have f0 : bits .and .u64 1 3689348814741910323 = 1 := by decide
  have f1 : bits .and .u64 2 1085102592571150095 = 2 := by decide
  have f2 : bits .and .u64 3 6148914691236517205 = 1 := by decide
  have f3 : bits .and .u64 5 3689348814741910323 = 1 := by decide
  have f4 : bits .and .u64 6 6148914691236517205 = 4 := by decide
  have g0 : bits .and .i64 2 127 = 2 := by decide
  go_enter Tryz.func126, Tryz.ntmps126
  go_wp2
  go_ret
  exact ⟨rfl, rfl⟩
theorem ones64_7 (w : World) : Calls Tryz.prog 126 #[.int .u64 7] w fun e w' => e = .returned (.int .i64 3) ∧ w = w' := by
  have f0 : bits .and .u64 1 3689348814741910323 = 1 := by decide
  have f1 : bits .and .u64 3 1085102592571150095 = 3 := by decide
  have f2 : bits .and .u64 3 6148914691236517205 = 1 := by decide
  have f3 : bits .and .u64 6 3689348814741910323 = 2 := by decide
  have f4 : bits .and .u64 7 6148914691236517205 = 5 := by decide
  have g0 : bits .and .i64 3 127 = 3 := by decide
  go_enter Tryz.func126, Tryz.ntmps126
  go_wp2
  go_ret
  exact ⟨rfl, rfl⟩
theorem ones64_8 (w : World) : Calls Tryz.prog 126 #[.int .u64 8] w fun e w' => e = .returned (.int .i64 1) ∧ w = w' := by
  have f0 : bits .and .u64 1 1085102592571150095 = 1 := by decide
  have f1 : bits .and .u64 1 3689348814741910323 = 1 := by decide
  have f2 : bits .and .u64 4 3689348814741910323 = 0 := by decide
  have f3 : bits .and .u64 4 6148914691236517205 = 4 := by decide
  have f4 : bits .and .u64 8 6148914691236517205 = 0 := by decide
  have g0 : bits .and .i64 1 127 = 1 := by decide
  go_enter Tryz.func126, Tryz.ntmps126
  go_wp2
  go_ret
  exact ⟨rfl, rfl⟩
theorem ones64_9 (w : World) : Calls Tryz.prog 126 #[.int .u64 9] w fun e w' => e = .returned (.int .i64 2) ∧ w = w' := by
  have f0 : bits .and .u64 1 3689348814741910323 = 1 := by decide
  have f1 : bits .and .u64 2 1085102592571150095 = 2 := by decide
  have f2 : bits .and .u64 4 6148914691236517205 = 4 := by decide
  have f3 : bits .and .u64 5 3689348814741910323 = 1 := by decide
  have f4 : bits .and .u64 9 6148914691236517205 = 1 := by decide
  have g0 : bits .and .i64 2 127 = 2 := by decide
  go_enter Tryz.func126, Tryz.ntmps126
  go_wp2
  go_ret
  exact ⟨rfl, rfl⟩
theorem ones64_10 (w : World) : Calls Tryz.prog 126 #[.int .u64 10] w fun e w' => e = .returned (.int .i64 2) ∧ w = w' := by
  have f0 : bits .and .u64 1 3689348814741910323 = 1 := by decide
  have f1 : bits .and .u64 2 1085102592571150095 = 2 := by decide
  have f2 : bits .and .u64 5 3689348814741910323 = 1 := by decide
  have f3 : bits .and .u64 5 6148914691236517205 = 5 := by decide
  have f4 : bits .and .u64 10 6148914691236517205 = 0 := by decide
  have g0 : bits .and .i64 2 127 = 2 := by decide
  go_enter Tryz.func126, Tryz.ntmps126
  go_wp2
  go_ret
  exact ⟨rfl, rfl⟩
theorem ones64_11 (w : World) : Calls Tryz.prog 126 #[.int .u64 11] w fun e w' => e = .returned (.int .i64 3) ∧ w = w' := by
  have f0 : bits .and .u64 1 3689348814741910323 = 1 := by decide
  have f1 : bits .and .u64 3 1085102592571150095 = 3 := by decide
  have f2 : bits .and .u64 5 6148914691236517205 = 5 := by decide
  have f3 : bits .and .u64 6 3689348814741910323 = 2 := by decide
  have f4 : bits .and .u64 11 6148914691236517205 = 1 := by decide
  have g0 : bits .and .i64 3 127 = 3 := by decide
  go_enter Tryz.func126, Tryz.ntmps126
  go_wp2
  go_ret
  exact ⟨rfl, rfl⟩
theorem ones64_12 (w : World) : Calls Tryz.prog 126 #[.int .u64 12] w fun e w' => e = .returned (.int .i64 2) ∧ w = w' := by
  have f0 : bits .and .u64 2 1085102592571150095 = 2 := by decide
  have f1 : bits .and .u64 2 3689348814741910323 = 2 := by decide
  have f2 : bits .and .u64 6 6148914691236517205 = 4 := by decide
  have f3 : bits .and .u64 8 3689348814741910323 = 0 := by decide
  have f4 : bits .and .u64 12 6148914691236517205 = 4 := by decide
  have g0 : bits .and .i64 2 127 = 2 := by decide
  go_enter Tryz.func126, Tryz.ntmps126
  go_wp2
  go_ret
  exact ⟨rfl, rfl⟩
theorem ones64_13 (w : World) : Calls Tryz.prog 126 #[.int .u64 13] w fun e w' => e = .returned (.int .i64 3) ∧ w = w' := by
  have f0 : bits .and .u64 2 3689348814741910323 = 2 := by decide
  have f1 : bits .and .u64 3 1085102592571150095 = 3 := by decide
  have f2 : bits .and .u64 6 6148914691236517205 = 4 := by decide
  have f3 : bits .and .u64 9 3689348814741910323 = 1 := by decide
  have f4 : bits .and .u64 13 6148914691236517205 = 5 := by decide
  have g0 : bits .and .i64 3 127 = 3 := by decide
  go_enter Tryz.func126, Tryz.ntmps126
  go_wp2
  go_ret
  exact ⟨rfl, rfl⟩
theorem ones64_14 (w : World) : Calls Tryz.prog 126 #[.int .u64 14] w fun e w' => e = .returned (.int .i64 3) ∧ w = w' := by
  have f0 : bits .and .u64 2 3689348814741910323 = 2 := by decide
  have f1 : bits .and .u64 3 1085102592571150095 = 3 := by decide
  have f2 : bits .and .u64 7 6148914691236517205 = 5 := by decide
  have f3 : bits .and .u64 9 3689348814741910323 = 1 := by decide
  have f4 : bits .and .u64 14 6148914691236517205 = 4 := by decide
  have g0 : bits .and .i64 3 127 = 3 := by decide
  go_enter Tryz.func126, Tryz.ntmps126
  go_wp2
  go_ret
  exact ⟨rfl, rfl⟩
theorem ones64_15 (w : World) : Calls Tryz.prog 126 #[.int .u64 15] w fun e w' => e = .returned (.int .i64 4) ∧ w = w' := by
  have f0 : bits .and .u64 2 3689348814741910323 = 2 := by decide
  have f1 : bits .and .u64 4 1085102592571150095 = 4 := by decide
  have f2 : bits .and .u64 7 6148914691236517205 = 5 := by decide
  have f3 : bits .and .u64 10 3689348814741910323 = 2 := by decide
  have f4 : bits .and .u64 15 6148914691236517205 = 5 := by decide
  have g0 : bits .and .i64 4 127 = 4 := by decide
  go_enter Tryz.func126, Tryz.ntmps126
  go_wp2
  go_ret
  exact ⟨rfl, rfl⟩
theorem ones_any (n : Nat) (hn : n < 16) (w : World) : Calls Tryz.prog 106 #[.int .u64 (n : Int)] w fun e w' => e = .returned (.int .i64 (pop4 n : Int)) ∧ w = w' := by
  have h : ∀ w, Calls Tryz.prog 126 #[.int .u64 (n : Int)] w fun e w' => e = .returned (.int .i64 (pop4 n : Int)) ∧ w = w' := by
    have hc : n = 0 ∨ n = 1 ∨ n = 2 ∨ n = 3 ∨ n = 4 ∨ n = 5 ∨ n = 6 ∨ n = 7 ∨ n = 8 ∨ n = 9 ∨ n = 10 ∨ n = 11 ∨ n = 12 ∨ n = 13 ∨ n = 14 ∨ n = 15 := by omega
    rcases hc with rfl | rfl | rfl | rfl | rfl | rfl | rfl | rfl | rfl | rfl | rfl | rfl | rfl | rfl | rfl | rfl
    · exact ones64_0
    · exact ones64_1
    · exact ones64_2
    · exact ones64_3
    · exact ones64_4
    · exact ones64_5
    · exact ones64_6
    · exact ones64_7
    · exact ones64_8
    · exact ones64_9
    · exact ones64_10
    · exact ones64_11
    · exact ones64_12
    · exact ones64_13
    · exact ones64_14
    · exact ones64_15
  generalize pop4 n = p at *
  go_enter Tryz.func106, Tryz.ntmps106
  go_wp2_with (with_reducible refine (h _).mono ?_; rintro e w1 ⟨rfl, rfl⟩)
  go_ret
  exact ⟨rfl, rfl⟩
end Go.Proofs.YtebkeocpojlepaaGreatDoor

/- state.Sound, dogwatchref14.Sound. -/
namespace Go.Proofs.YtebkeocpojlepaaGreatDoor
open Go.RowKit
set_option linter.unusedVariables false
set_option linter.unusedSimpArgs false

/-- a state of a flight -/
structure St where
  mode : Int
  armed : Bool
  home : Bool
  lat : Int
  lon : Int
  iso : Int
  deriving DecidableEq
abbrev stC (s : St) : Array Value := #[.int .i64 s.mode, .bool s.armed, .bool s.home, .int .i64 s.lat, .int .i64 s.lon, .int .i64 s.iso]
abbrev stV (s : St) : Value := .agg (stC s)
structure St.ok (s : St) : Prop where
  hm : (Lit.int .i64 s.mode).wf = true
  ha : (Lit.int .i64 s.lat).wf = true
  ho : (Lit.int .i64 s.lon).wf = true
  hi : (Lit.int .i64 s.iso).wf = true

def nibI (i : Int) : Nat := (i % 16).toNat
theorem nib_lt (i : Int) : nibI i < 16 := by unfold nibI; omega
def soundI (i : Int) : Int := (pop4 (15 - nibI i) : Nat)
theorem pop4_le (n : Nat) : pop4 n ≤ 4 := by unfold pop4; omega
theorem sound_le (i : Int) : 0 ≤ soundI i ∧ soundI i ≤ 4 := by have := pop4_le (15 - nibI i); unfold soundI; omega

theorem xor15 : ∀ k : Fin 16, (15 ^^^ k.1) = 15 - k.1 := by decide
theorem ofInt_mod (i : Int) (m : Nat) (h : m ∣ 2 ^ 64) (hm : 0 < m) : (BitVec.ofInt 64 i).toNat % m = (i % (m : Int)).toNat := by
  rw [BitVec.toNat_ofInt]
  have e : ((i % ((2 ^ 64 : Nat) : Int)).toNat : Int) = i % ((2 ^ 64 : Nat) : Int) := Int.toNat_of_nonneg (Int.emod_nonneg _ (by decide))
  have h2 : (((i % ((2 ^ 64 : Nat) : Int)).toNat % m : Nat) : Int) = i % (m : Int) := by
    rw [Int.natCast_emod, e]
    exact Int.emod_emod_of_dvd i (by exact_mod_cast h)
  omega
theorem not_nib (i : Int) : bits .and .i64 (bits .xor .i64 (-1) i) 15 = ((15 - nibI i : Nat) : Int) := by
  have hw : ∀ m : Nat, m < 1024 → IntKind.i64.wrap (m : Int) = (m : Int) := fun m hm => IntWalk.i64_in _ (by omega)
  have e1 : bits .xor .i64 (-1) i = IntKind.i64.wrap ((BitVec.ofInt 64 (-1) ^^^ BitVec.ofInt 64 i).toNat : Int) := rfl
  have e2 : ∀ v : Int, bits .and .i64 v 15 = (((BitVec.ofInt 64 v).toNat % 16 : Nat) : Int) := by
    intro v
    show IntKind.i64.wrap ((BitVec.ofInt 64 v &&& BitVec.ofInt 64 15).toNat : Int) = _
    rw [BitVec.toNat_and, show (BitVec.ofInt 64 15).toNat = 2 ^ 4 - 1 from rfl, Nat.and_two_pow_sub_one_eq_mod]
    exact hw _ (by omega)
  rw [e2, e1]
  have e3 : ∀ x : BitVec 64, (BitVec.ofInt 64 (IntKind.i64.wrap (x.toNat : Int))).toNat % 16 = x.toNat % 16 := by
    intro x
    rw [ofInt_mod _ 16 (by decide) (by decide)]
    rw [IntKind.wrap_i64]
    omega
  rw [e3, BitVec.toNat_xor, show (BitVec.ofInt 64 (-1)).toNat = 2 ^ 64 - 1 from rfl]
  have e4 : ((2 ^ 64 - 1) ^^^ (BitVec.ofInt 64 i).toNat) % 2 ^ 4 = ((2 ^ 64 - 1) % 2 ^ 4) ^^^ ((BitVec.ofInt 64 i).toNat % 2 ^ 4) := Nat.xor_mod_two_pow
  rw [show (16 : Nat) = 2 ^ 4 from rfl, e4, show (2 ^ 4 : Nat) = 16 from rfl, ofInt_mod i 16 (by decide) (by decide)]
  have h5 := xor15 ⟨(i % 16).toNat, nib_lt i⟩
  have h6 : (2 ^ 64 - 1) % 16 = 15 := by decide
  rw [h6]
  exact congrArg Nat.cast h5
theorem and_one (v : Int) (hv : (Lit.int .i64 v).wf = true) : bits .and .i64 v 1 = v % 2 := by
  show IntKind.i64.wrap ((BitVec.ofInt 64 v &&& BitVec.ofInt 64 1).toNat : Int) = _
  rw [BitVec.toNat_and, show (BitVec.ofInt 64 1).toNat = 2 ^ 1 - 1 from rfl, Nat.and_two_pow_sub_one_eq_mod, show (2 ^ 1 : Nat) = 2 from rfl, ofInt_mod v 2 (by decide) (by decide)]
  rw [IntWalk.i64_in _ (by omega)]
  omega

theorem sSound_any (s : St) (w : World) : Calls Tryz.prog 84 #[stV s] w fun e w' => e = .returned (.int .i64 (soundI s.iso)) ∧ Below w.heap.size w w' := by
  have h1 := not_nib s.iso
  have h2 := ones_any (15 - nibI s.iso) (by omega)
  have h3 : soundI s.iso = (pop4 (15 - nibI s.iso) : Nat) := rfl
  rw [h3]
  clear h3
  have hlt : 15 - nibI s.iso < 16 := by omega
  have hu : IntKind.u64.wrap (((15 - nibI s.iso : Nat)) : Int) = ((15 - nibI s.iso : Nat) : Int) := by unfold IntKind.wrap; simp [IntKind.bits, IntKind.signed]; omega
  generalize 15 - nibI s.iso = n at *
  generalize pop4 n = p at *
  go_enter Tryz.func84, Tryz.ntmps84
  go_wp2_with (with_reducible refine (h2 _).mono ?_; rintro e w1 ⟨rfl, rfl⟩)
  go_ret
  exact ⟨rfl, (Below.refl _ w).alloc (Nat.le_refl _) _⟩

def cntI (n : Nat) : Nat → Nat
  | 0 => 0
  | k + 1 => cntI n k + if n / 2 ^ k % 2 = 0 then 1 else 0
theorem cnt_pop : ∀ n : Fin 16, cntI n.1 4 = pop4 (15 - n.1) := by decide
theorem cnt_le (n : Nat) (k : Nat) : cntI n k ≤ k := by
  induction k with
  | zero => simp [cntI]
  | succ k ih => unfold cntI; split <;> omega
theorem nib_bit (i : Int) (k : Nat) (hk : k < 4) : (i / 2 ^ k) % 2 = ((nibI i / 2 ^ k % 2 : Nat) : Int) := by
  unfold nibI
  have hc : k = 0 ∨ k = 1 ∨ k = 2 ∨ k = 3 := by omega
  rcases hc with rfl | rfl | rfl | rfl <;> simp <;> omega

set_option maxHeartbeats 1000000 in
theorem r14Sound (s : St) (hs : s.ok) (w : World) : Calls Tryz.prog 21 #[stV s] w fun e w' => e = .returned (.int .i64 (soundI s.iso)) ∧ Below w.heap.size w w' := by
  have hS : soundI s.iso = (cntI (nibI s.iso) 4 : Nat) := by unfold soundI; rw [← cnt_pop ⟨nibI s.iso, nib_lt s.iso⟩]
  rw [hS]
  have hi := hs.hi
  have k0 := Blk.new w 39 (stC s)
  have B0 : Below w.heap.size w (w.alloc (.cells (stC s) 39)) := (Below.refl _ w).alloc (Nat.le_refl _) _
  clear hS
  go_enter Tryz.func21, Tryz.ntmps21
  go_wp2_with fail
  generalize World.alloc w _ = W at *
  have r5 := k0.cell 5
  simp at r5
  go_loop [3, 4] (fun n i => ∃ k : Nat, k ≤ 4 ∧ i = .int .i64 k ∧ n = .int .i64 (cntI (nibI s.iso) k : Nat)) (fun _ i => 4 - (intOf i).toNat)
  case atStart => exact ⟨0, by omega, rfl, rfl⟩
  case round =>
    obtain ⟨k, hk, rfl, rfl⟩ := hrel
    by_cases hlt : k < 4
    · have hd : decide ((k : Int) < 4) = true := by simp; omega
      have hk64 : k < 64 := by omega
      have hb := nib_bit s.iso k hlt
      have hwf : (Lit.int .i64 (s.iso / 2 ^ k)).wf = true := by
        simp [Lit.wf, IntKind.min, IntKind.max, IntKind.signed, IntKind.bits] at hi ⊢
        have hc : k = 0 ∨ k = 1 ∨ k = 2 ∨ k = 3 := by omega
        rcases hc with rfl | rfl | rfl | rfl <;> simp <;> omega
      have ha := and_one (s.iso / 2 ^ k) hwf
      rw [hb] at ha
      have hcs : cntI (nibI s.iso) (k + 1) = cntI (nibI s.iso) k + if nibI s.iso / 2 ^ k % 2 = 0 then 1 else 0 := rfl
      have HC := Lib.hid hcs
      have hle := cnt_le (nibI s.iso) k
      clear hcs hb hwf
      generalize cntI (nibI s.iso) k = c at *
      by_cases hz : nibI s.iso / 2 ^ k % 2 = 0
      · have HZ := Lib.hid hz
        rw [hz] at ha
        clear hz
        go_wp2
        go_round
        case rel => exact ⟨k + 1, by omega, by go_num, by rw [HC.out, if_pos HZ.out]; go_num⟩
        case measure => simp [intOf]; omega
      · have hz1 : nibI s.iso / 2 ^ k % 2 = 1 := by omega
        have HZ := Lib.hid hz
        rw [hz1] at ha
        clear hz hz1
        go_wp2
        go_round
        case rel => exact ⟨k + 1, by omega, by go_num, by rw [HC.out, if_neg HZ.out]; go_num⟩
        case measure => simp [intOf]; omega
    · obtain rfl : k = 4 := by omega
      go_wp2
      go_ret
      exact ⟨rfl, B0⟩
end Go.Proofs.YtebkeocpojlepaaGreatDoor

/- resolve.Safe, Resolve; state.Default, within, when; dogwatchref16.Fits. -/
namespace Go.Proofs.YtebkeocpojlepaaGreatDoor
open Go.RowKit
set_option linter.unusedVariables false
set_option linter.unusedSimpArgs false

theorem cells_all {W W' : World} (hb : Below W.heap.size W W') : ∀ b o, b < W.heap.size → W'.cell? ⟨b, o, none⟩ = W.cell? ⟨b, o, none⟩ := fun b o h => hb.cell (p := ⟨b, o, none⟩) h
theorem lt_size {n : Nat} {W W' : World} (h : n < W.heap.size) (hb : Below W.heap.size W W') : n < W'.heap.size := Nat.lt_of_lt_of_le h hb.size

def safeV (F H home : Bool) (N S m : Int) : Int := if F = true ∧ N ≤ S ∧ (home = true ∨ H = false) then m else if S < 2 then 5 else 2
def safeI (s : St) : Int := safeV (flyB s.mode) (homeB s.mode) s.home (needsI s.mode) (soundI s.iso) s.mode
def resolveS (s : St) (v : Int) : St := if v = 2 then { s with armed := true, mode := safeI s } else if v = 1 then { s with armed := false, mode := 0 } else s

set_option maxHeartbeats 4000000 in
theorem Safe_any (s : St) (w : World) : Calls Tryz.prog 77 #[stV s] w fun e w' => e = .returned (.int .i64 (safeI s)) ∧ Below w.heap.size w w' := by
  have h1 := sSound_any s
  have h2 := tFlying_any s.mode
  have h3 := Needs_any s.mode
  have h4 := tHome_any s.mode
  have h5 := Needs_any 2
  rw [show needsI 2 = 2 from rfl] at h5
  have hb := sound_le s.iso
  have hn := needs_le s.mode
  obtain ⟨R, hR⟩ : ∃ R, R = safeI s := ⟨_, rfl⟩
  rw [← hR]
  unfold safeI at hR
  have k0 := Blk.new w 32 (stC s)
  have B0 : Below w.heap.size w (w.alloc (.cells (stC s) 32)) := (Below.refl _ w).alloc (Nat.le_refl _) _
  generalize flyB s.mode = F at *
  generalize homeB s.mode = H at *
  generalize needsI s.mode = N at *
  generalize soundI s.iso = S at *
  obtain ⟨m, ar, ho, la, lo, is⟩ := s
  simp only at *
  have dS : decide (S < 2) = true ∨ decide (S < 2) = false := by cases decide (S < 2) <;> simp
  have dN : decide (N ≤ S) = true ∨ decide (N ≤ S) = false := by cases decide (N ≤ S) <;> simp
  have HR := Lib.hid hR
  clear hR
  rcases dS with dS | dS
  all_goals
    rcases dN with dN | dN
    all_goals
      cases F
      all_goals
        cases ho
        all_goals
          cases H
          all_goals
            go_enter Tryz.func77, Tryz.ntmps77
            go_wp2_with fail
            generalize World.alloc w _ = W0 at *
            have r_0 := k0.cell 0
            have r_1 := k0.cell 1
            have r_2 := k0.cell 2
            have r_3 := k0.cell 3
            have r_4 := k0.cell 4
            have r_5 := k0.cell 5
            simp at r_0 r_1 r_2 r_3 r_4 r_5
            have y0 := k0.lt
            go_wp2_with (first | ((with_reducible refine (h1 _).mono ?_); rintro e wa ⟨rfl, bwa⟩; have cwa := cells_all bwa; have ywa := lt_size (by assumption) bwa) | ((with_reducible refine (h2 _).mono ?_); rintro e wb ⟨rfl, bwb⟩; have cwb := cells_all bwb; have ywb := lt_size (by assumption) bwb) | ((with_reducible refine (h3 _).mono ?_); rintro e wc ⟨rfl, bwc⟩; have cwc := cells_all bwc; have ywc := lt_size (by assumption) bwc) | ((with_reducible refine (h4 _).mono ?_); rintro e wd ⟨rfl, bwd⟩; have cwd := cells_all bwd; have ywd := lt_size (by assumption) bwd) | ((with_reducible refine (h5 _).mono ?_); rintro e we ⟨rfl, bwe⟩; have cwe := cells_all bwe; have ywe := lt_size (by assumption) bwe))
            go_ret
            exact ⟨ret_int (by rw [HR.out]; unfold safeV; simp only [decide_eq_true_eq, decide_eq_false_iff_not] at dS dN; simp [dS, dN]), by (repeat (first | assumption | refine bthen ?_ (by assumption)))⟩

abbrev zStC : Array Value := #[.int .i64 0, .bool false, .bool false, .int .i64 0, .int .i64 0, .int .i64 0]
theorem infoSt (s : St) : (Tryz.prog.info? 32).map (·.size) = some (stC s).size := by kernel_rfl
theorem oneSt (s : St) : (stC s).all (·.oneCell') = true := by kernel_rfl

set_option maxHeartbeats 2000000 in
theorem Resolve_any (s : St) (v : Int) (w : World) : Calls Tryz.prog 49 #[stV s, .int .i64 v] w fun e w' => e = .returned (stV (resolveS s v)) ∧ Below w.heap.size w w' := by
  have hS := Safe_any s
  by_cases h2 : v = 2
  · have hR : resolveS s v = { s with armed := true, mode := safeI s } := if_pos h2
    rw [hR]
    clear hR
    generalize safeI s = q at *
    obtain ⟨m, ar, ho, la, lo, is⟩ := s
    simp only at *
    subst h2
    have kF := (Blk.new w 32 (stC ⟨m, ar, ho, la, lo, is⟩)).alloc (.cells zStC 32)
    have kZ := Blk.new (w.alloc (.cells (stC ⟨m, ar, ho, la, lo, is⟩) 32)) 32 zStC
    rw [World.size_alloc] at kZ
    have B0 : Below w.heap.size w ((w.alloc (.cells (stC ⟨m, ar, ho, la, lo, is⟩) 32)).alloc (.cells zStC 32)) := ((Below.refl _ w).alloc (Nat.le_refl _) _).alloc (by simp) _
    go_enter Tryz.func49, Tryz.ntmps49
    go_wp2_with fail
    generalize World.alloc (World.alloc w _) _ = W0 at *
    have r_0 := kF.cell 0
    have r_1 := kF.cell 1
    have r_2 := kF.cell 2
    have r_3 := kF.cell 3
    have r_4 := kF.cell 4
    have r_5 := kF.cell 5
    simp at r_0 r_1 r_2 r_3 r_4 r_5
    have y0 := kF.lt
    go_wp2_with fail
    refine (hS _).mono ?_
    rintro e w1 ⟨rfl, b1⟩
    replace kF := kF.below b1 kF.lt
    replace kZ := kZ.below b1 kZ.lt
    replace B0 := bthen B0 b1
    clear r_0 r_1 r_2 r_3 r_4 r_5 b1
    have r_0 := kF.cell 0
    have r_1 := kF.cell 1
    have r_2 := kF.cell 2
    have r_3 := kF.cell 3
    have r_4 := kF.cell 4
    have r_5 := kF.cell 5
    simp at r_0 r_1 r_2 r_3 r_4 r_5
    have g1 := kF.frozen 1
    have g0 := kF.frozen 0
    replace kZ := (kZ.other ⟨w.heap.size, 1, none⟩ (by show w.heap.size + 1 ≠ w.heap.size; omega) (.bool true)).other ⟨w.heap.size, 0, none⟩ (by show w.heap.size + 1 ≠ w.heap.size; omega) (.int .i64 q)
    replace B0 := (B0.setCell (p := ⟨w.heap.size, 1, none⟩) (Nat.le_refl _) (.bool true)).setCell (p := ⟨w.heap.size, 0, none⟩) (Nat.le_refl _) (.int .i64 q)
    go_wp2_with (refine wpList_store_row rfl 32 (.tmp 4) (.tmp 16) rfl (w.heap.size + 1) (stC ⟨q, true, ho, la, lo, is⟩) rfl rfl 32 _ kZ (infoSt _) rfl (oneSt _) ?_)
    have k5 := kZ.row (stC (⟨q, true, ho, la, lo, is⟩ : St))
    have B5 := bel_row B0 (w.heap.size + 1) (Nat.le_succ _) (stC (⟨q, true, ho, la, lo, is⟩ : St))
    exact bodyPost_ret (v := stV (⟨q, true, ho, la, lo, is⟩ : St)) (results_cell_row rfl _ _ (w.heap.size + 1) 32 (stC (⟨q, true, ho, la, lo, is⟩ : St)) (0, 0) _ rfl k5 Tryz.underlying32 rfl (infoSt (⟨q, true, ho, la, lo, is⟩ : St))) rfl ⟨rfl, B5⟩
  · have n2 : (v == 2) = false := by simpa using h2
    by_cases h1 : v = 1
    · have hR : resolveS s v = { s with armed := false, mode := 0 } := by unfold resolveS; rw [if_neg h2, if_pos h1]
      rw [hR]
      clear hR hS
      obtain ⟨m, ar, ho, la, lo, is⟩ := s
      simp only at *
      subst h1
      go_enter Tryz.func49, Tryz.ntmps49
      go_wp2
      exact bodyPost_ret (v := stV ⟨0, false, ho, la, lo, is⟩) (by simp [results, Tryz.results49, go_sem]) rfl ⟨rfl, ((Below.refl _ w).alloc (Nat.le_refl _) _).alloc (by simp) _⟩
    · have hR : resolveS s v = s := by unfold resolveS; rw [if_neg h2, if_neg h1]
      have n1 : (v == 1) = false := by simpa using h1
      rw [hR]
      clear hR hS h1 h2
      obtain ⟨m, ar, ho, la, lo, is⟩ := s
      go_enter Tryz.func49, Tryz.ntmps49
      go_wp2
      exact bodyPost_ret (v := stV ⟨m, ar, ho, la, lo, is⟩) (by simp [results, Tryz.results49, go_sem]) rfl ⟨rfl, ((Below.refl _ w).alloc (Nat.le_refl _) _).alloc (by simp) _⟩
end Go.Proofs.YtebkeocpojlepaaGreatDoor

/- state.Default, within, when, Legal. -/
namespace Go.Proofs.YtebkeocpojlepaaGreatDoor
open Go.RowKit
set_option linter.unusedVariables false
set_option linter.unusedSimpArgs false

def legalB (s : St) : Bool := decide (0 ≤ s.mode) && decide (s.mode ≤ 5) && (decide (0 ≤ s.iso) && decide (s.iso ≤ 15)) && (decide (-737280 ≤ s.lat) && decide (s.lat ≤ 737280)) && (decide (-1474560 ≤ s.lon) && decide (s.lon ≤ 1474560)) && (s.home || (decide (s.lat = 0) && decide (s.lon = 0)))

theorem not15_bit : ∀ i : Fin 64, (~~~ (15 : BitVec 64)).getLsbD i.1 = decide (4 ≤ i.1) := by decide
theorem and_not15 (x : BitVec 64) : (x &&& ~~~ (15 : BitVec 64)) = (x >>> 4) <<< 4 := by
  apply BitVec.eq_of_getLsbD_eq
  intro i hi
  rw [BitVec.getLsbD_and, not15_bit ⟨i, hi⟩, BitVec.getLsbD_shiftLeft, BitVec.getLsbD_ushiftRight]
  by_cases h : 4 ≤ i
  · simp [h, hi, show 4 + (i - 4) = i by omega]
  · simp [h]
theorem iso_test (i : Int) (hi : (Lit.int .i64 i).wf = true) : (bits .andNot .i64 i 15 != 0) = !(decide (0 ≤ i) && decide (i ≤ 15)) := by
  have e : bits .andNot .i64 i 15 = IntKind.i64.wrap (((BitVec.ofInt 64 i) &&& ~~~ (BitVec.ofInt 64 15)).toNat : Int) := rfl
  rw [e, show BitVec.ofInt 64 15 = (15 : BitVec 64) from rfl, and_not15]
  have e2 : ((BitVec.ofInt 64 i >>> 4) <<< 4).toNat = (BitVec.ofInt 64 i).toNat / 16 * 16 := by
    rw [BitVec.toNat_shiftLeft, BitVec.toNat_ushiftRight, Nat.shiftLeft_eq, Nat.shiftRight_eq_div_pow]
    have := (BitVec.ofInt 64 i).isLt
    rw [Nat.mod_eq_of_lt]
    omega
  rw [e2, BitVec.toNat_ofInt, IntKind.wrap_i64]
  simp [Lit.wf, IntKind.min, IntKind.max, IntKind.signed, IntKind.bits] at hi
  rw [Bool.eq_iff_iff, bne_iff_ne, Bool.not_eq_true', Bool.and_eq_false_iff, decide_eq_false_iff_not, decide_eq_false_iff_not]
  by_cases h : 0 ≤ i
  · have : (i % ((2 ^ 64 : Nat) : Int)).toNat = i.toNat := by omega
    rw [this]; omega
  · have : (i % ((2 ^ 64 : Nat) : Int)).toNat = (i + 2 ^ 64).toNat := by omega
    rw [this]; omega

def inB (n m : Int) : Bool := decide (-m ≤ n) && decide (n ≤ m)
theorem within_any (n m : Int) (hm : 0 ≤ m) (hm2 : m ≤ 100000000) (w : World) : Calls Tryz.prog 71 #[.int .i64 n, .int .i64 m] w fun e w' => e = .returned (.bool (inB n m)) ∧ w = w' := by
  obtain ⟨R, hR⟩ : ∃ R, R = inB n m := ⟨_, rfl⟩
  rw [← hR]
  unfold inB at hR
  have dA : decide (-m ≤ n) = true ∨ decide (-m ≤ n) = false := by cases decide (-m ≤ n) <;> simp
  have dB : decide (n ≤ m) = true ∨ decide (n ≤ m) = false := by cases decide (n ≤ m) <;> simp
  have HR := Lib.hid hR
  clear hR
  rcases dA with dA | dA <;> rcases dB with dB | dB
  all_goals
    go_enter Tryz.func71, Tryz.ntmps71
    go_wp2
    go_ret
    exact ⟨ret_bool (by rw [HR.out, dA, dB]; rfl), rfl⟩

theorem sDefault_any (w : World) : Calls Tryz.prog 27 #[] w fun e w' => e = .returned (stV ⟨0, false, false, 0, 0, 0⟩) ∧ Below w.heap.size w w' := by
  go_enter Tryz.func27, Tryz.ntmps27
  go_wp2
  exact bodyPost_ret (v := stV ⟨0, false, false, 0, 0, 0⟩) (by simp [results, Tryz.results27, go_sem]) rfl ⟨rfl, (Below.refl _ w).alloc (Nat.le_refl _) _⟩

theorem when_any (b : Bool) (n : Int) (w : World) : Calls Tryz.prog 66 #[.bool b, .int .i64 n] w fun e w' => e = .returned (.int .i64 (if b then n else 0)) ∧ w = w' := by
  cases b
  all_goals
    go_enter Tryz.func66, Tryz.ntmps66
    go_wp2
    go_ret
    exact ⟨rfl, rfl⟩

set_option maxHeartbeats 4000000 in
theorem Legal_any (s : St) (hs : s.ok) (w : World) : Calls Tryz.prog 45 #[stV s] w fun e w' => e = .returned (.bool (legalB s)) ∧ Below w.heap.size w w' := by
  have h1 := within_any s.lat 737280 (by decide) (by decide)
  have h2 := within_any s.lon 1474560 (by decide) (by decide)
  have hI := iso_test s.iso hs.hi
  have hL : legalB s = (decide (0 ≤ s.mode) && decide (s.mode ≤ 5) && (decide (0 ≤ s.iso) && decide (s.iso ≤ 15)) && inB s.lat 737280 && inB s.lon 1474560 && (s.home || (decide (s.lat = 0) && decide (s.lon = 0)))) := rfl
  obtain ⟨R, hR⟩ : ∃ R, R = legalB s := ⟨_, rfl⟩
  rw [← hR]
  rw [← hR] at hL
  clear hR
  generalize inB s.lat 737280 = BA at *
  generalize inB s.lon 1474560 = BO at *
  generalize (decide (0 ≤ s.iso) && decide (s.iso ≤ 15)) = BI at *
  have k0 := Blk.new w 32 (stC s)
  have B0 : Below w.heap.size w (w.alloc (.cells (stC s) 32)) := (Below.refl _ w).alloc (Nat.le_refl _) _
  obtain ⟨m, ar, ho, la, lo, is⟩ := s
  simp only at *
  have d0 : (decide (m < 0) = true ∧ decide (0 ≤ m) = false) ∨ (decide (m < 0) = false ∧ decide (0 ≤ m) = true ∧ decide (5 < m) = true ∧ decide (m ≤ 5) = false) ∨ (decide (m < 0) = false ∧ decide (0 ≤ m) = true ∧ decide (5 < m) = false ∧ decide (m ≤ 5) = true) := by
    by_cases a : m < 0
    · left; simp; omega
    · right
      by_cases b : 5 < m
      · left; simp; omega
      · right; simp; omega
  rcases d0 with ⟨d0, g0⟩ | ⟨d0, g0, d1, g1⟩ | ⟨d0, g0, d1, g1⟩
  · rw [g0] at hL
    have HL := Lib.hid (show R = false by rw [hL]; simp)
    clear hL g0 hI
    go_enter Tryz.func45, Tryz.ntmps45
    go_wp2
    go_ret
    exact ⟨ret_bool HL.out.symm, B0⟩
  · rw [g1] at hL
    have HL := Lib.hid (show R = false by rw [hL]; simp)
    clear hL g1 g0 hI
    go_enter Tryz.func45, Tryz.ntmps45
    go_wp2
    go_ret
    exact ⟨ret_bool HL.out.symm, B0⟩
  · rw [g0, g1] at hL
    have HL := Lib.hid hL
    clear hL g0 g1
    cases BI with
    | false =>
      have HL := Lib.hid (show R = false by rw [HL.out]; simp)
      go_enter Tryz.func45, Tryz.ntmps45
      go_wp2
      go_ret
      exact ⟨ret_bool HL.out.symm, B0⟩
    | true =>
      cases BA
      all_goals
        cases BO
        all_goals
          cases ho
          all_goals
            go_enter Tryz.func45, Tryz.ntmps45
            go_wp2_with (first | (with_reducible refine (h1 _).mono ?_; rintro e w1 ⟨rfl, rfl⟩) | (with_reducible refine (h2 _).mono ?_; rintro e w1 ⟨rfl, rfl⟩))
            all_goals
              go_ret
              exact ⟨ret_bool (by rw [HL.out]; simp [*]), by first | exact (Below.refl _ w).alloc (Nat.le_refl _) _ | exact ((Below.refl _ w).alloc (Nat.le_refl _) _).alloc (by simp) _⟩
end Go.Proofs.YtebkeocpojlepaaGreatDoor

/- state.Unpack. -/
namespace Go.Proofs.YtebkeocpojlepaaGreatDoor
open Go.RowKit
set_option linter.unusedVariables false
set_option linter.unusedSimpArgs false

theorem andI_low (k : IntKind) (v m : Nat) (hk : k = .i64 ∨ k = .u64) (hm : m ≤ 8) (hv : v < 18446744073709551616) : bits .and k (v : Int) ((2 ^ m - 1 : Nat) : Int) = ((v % 2 ^ m : Nat) : Int) := by
  have hw : ∀ j : Nat, j < 1024 → k.wrap (j : Int) = (j : Int) := by
    intro j hj
    rcases hk with rfl | rfl
    · exact IntWalk.i64_in _ (by omega)
    · show (j : Int) % 18446744073709551616 = _
      omega
  have hp : 2 ^ m ≤ 2 ^ 8 := Nat.pow_le_pow_right (by decide) hm
  have hq : (BitVec.ofInt 64 (v : Int) &&& BitVec.ofInt 64 ((2 ^ m - 1 : Nat) : Int)).toNat = v % 2 ^ m := by
    rw [BitVec.toNat_and, BitVec.toNat_ofInt, BitVec.toNat_ofInt]
    rw [show ((v : Int) % ((2 ^ 64 : Nat) : Int)).toNat = v by omega, show (((2 ^ m - 1 : Nat) : Int) % ((2 ^ 64 : Nat) : Int)).toNat = 2 ^ m - 1 by omega, Nat.and_two_pow_sub_one_eq_mod]
  have hlt := Nat.mod_lt v (Nat.two_pow_pos m)
  rcases hk with rfl | rfl
  · show IntKind.i64.wrap ((BitVec.ofInt 64 (v : Int) &&& BitVec.ofInt 64 ((2 ^ m - 1 : Nat) : Int)).toNat : Int) = _
    rw [hq]; exact hw _ (by omega)
  · show IntKind.u64.wrap ((BitVec.ofInt 64 (v : Int) &&& BitVec.ofInt 64 ((2 ^ m - 1 : Nat) : Int)).toNat : Int) = _
    rw [hq]; exact hw _ (by omega)

theorem fst7 (f : Nat) (hf : f < 256) : bits .and .i64 (f : Int) 7 = ((f % 8 : Nat) : Int) := andI_low .i64 f 3 (.inl rfl) (by decide) (by omega)
theorem fst8 : ∀ f : Fin 256, (bits .and .i64 (f.1 : Int) 8 != 0) = decide (f.1 / 8 % 2 = 1) := by decide +kernel
theorem fst16 : ∀ f : Fin 256, (bits .and .i64 (f.1 : Int) 16 != 0) = decide (f.1 / 16 % 2 = 1) := by decide +kernel

/-- what eight bytes stand for, before it is looked at -/
def unpR (n : Nat) : St := ⟨((n / 72057594037927936 % 8 : Nat) : Int), decide (n / 72057594037927936 / 8 % 2 = 1), decide (n / 72057594037927936 / 16 % 2 = 1), signed3 (n / 16777216), signed3 n, ((n / 281474976710656 % 256 : Nat) : Int)⟩
def unpB (n : Nat) : Bool := legalB (unpR n) && decide (n / 72057594037927936 < 32)
def st0 : St := ⟨0, false, false, 0, 0, 0⟩
def unpS (n : Nat) : St := if unpB n then unpR n else st0
def unpE (n : Nat) : Int := if unpB n then 0 else 13

theorem signed3_rng (n : Nat) : -8388608 ≤ signed3 n ∧ signed3 n < 8388608 := by rw [signed3_eq]; have := Nat.mod_lt n (show 0 < 16777216 by decide); split <;> omega
theorem i64wf (i : Int) (h1 : -9223372036854775808 ≤ i) (h2 : i < 9223372036854775808) : (Lit.int .i64 i).wf = true := by
  simp [Lit.wf, IntKind.min, IntKind.max, IntKind.signed, IntKind.bits]; omega
theorem unpR_ok (n : Nat) : (unpR n).ok := by
  have h1 := signed3_rng (n / 16777216)
  have h2 := signed3_rng n
  have h3 := Nat.mod_lt (n / 72057594037927936) (show 0 < 8 by decide)
  have h4 := Nat.mod_lt (n / 281474976710656) (show 0 < 256 by decide)
  exact ⟨i64wf _ (by simp [unpR]; omega) (by simp [unpR]; omega), i64wf _ (by simp [unpR]; omega) (by simp [unpR]; omega), i64wf _ (by simp [unpR]; omega) (by simp [unpR]; omega), i64wf _ (by simp [unpR]; omega) (by simp [unpR]; omega)⟩

theorem results_two {P : Program} {fn : Func} {p u : Tmp} {ty : TypeId} (h : fn.results = #[.cell p ty, .tmp u]) (tmps : Array Value) (w : World) (g : Nat) (t : TypeId) (cs : Array Value) (fr : Nat × Nat) (d : TypeDesc) (x : Value)
    (hp : tmps.getD p undef = .pointer (some ⟨g, 0, none⟩)) (hx : tmps.getD u undef = x) (hg : w.heap[g]? = some (.cells cs t fr))
    (hu : P.underlying ty = some d) (hd : (match d with | .struct _ | .array _ _ => true | _ => false) = true) (hi : (P.info? ty).map (·.size) = some cs.size) :
    (results fn tmps).run P w = .ok (.tuple #[.agg cs, x]) w := by
  rw [results_cell_tmp h, hp, hx]
  simp [asAddr, run_loadVar_row w g t ty cs fr d hg hu hd hi, Result.andThen]

set_option maxHeartbeats 4000000 in
theorem Unpack_any (n : Nat) (hn : n < 18446744073709551616) (w : World) : Calls Tryz.prog 29 #[.int .u64 (n : Int)] w fun e w' => e = .returned (.tuple #[stV (unpS n), .int .i64 (unpE n)]) ∧ Below w.heap.size w w' := by
  have hA := Signed_any (n / 16777216) (by omega)
  have hB := Signed_any n hn
  have hok := unpR_ok n
  have hL := Legal_any (unpR n) hok
  have hR : unpR n = ⟨((n / 72057594037927936 % 8 : Nat) : Int), decide (n / 72057594037927936 / 8 % 2 = 1), decide (n / 72057594037927936 / 16 % 2 = 1), signed3 (n / 16777216), signed3 n, ((n / 281474976710656 % 256 : Nat) : Int)⟩ := rfl
  have hS : unpS n = if unpB n then unpR n else st0 := rfl
  have hE : unpE n = if unpB n then 0 else 13 := rfl
  have hX : unpB n = (legalB (unpR n) && decide (n / 72057594037927936 < 32)) := rfl
  have f24 : (n : Int) / 16777216 = ((n / 16777216 : Nat) : Int) := by omega
  have f56 : (n : Int) / 72057594037927936 = ((n / 72057594037927936 : Nat) : Int) := by omega
  have f48 : (n : Int) / 281474976710656 = ((n / 281474976710656 : Nat) : Int) := by omega
  have hc : n / 281474976710656 < 65536 := by omega
  have hf : n / 72057594037927936 < 256 := by omega
  have g48 : bits .and .u64 ((n / 281474976710656 : Nat) : Int) 255 = ((n / 281474976710656 % 256 : Nat) : Int) := andI_low .u64 (n / 281474976710656) 8 (.inr rfl) (by decide) (by omega)
  have g7 := fst7 _ hf
  have g8 := fst8 ⟨_, hf⟩
  have g16 := fst16 ⟨_, hf⟩
  simp only [] at g8 g16
  generalize unpS n = RS at *
  generalize unpE n = RE at *
  generalize unpB n = RB at *
  generalize unpR n = R at *
  generalize n / 16777216 = a at *
  generalize n / 72057594037927936 = f at *
  generalize n / 281474976710656 = c at *
  generalize decide (f / 8 % 2 = 1) = b8 at *
  generalize decide (f / 16 % 2 = 1) = b16 at *
  have HG : Hid (wrap64 (bits .and .u64 (c : Int) 255) = ((c % 256 : Nat) : Int)) := Lib.hid (by rw [g48]; unfold wrap64; have := Nat.mod_lt c (show 0 < 256 by decide); omega)
  clear g48
  have hc2 : c % 256 < 256 := Nat.mod_lt _ (by decide)
  have w7 : wrap64 (f : Int) = (f : Int) := by unfold wrap64; omega
  generalize c % 256 = d at *
  generalize f % 8 = m at *
  generalize signed3 a = sa at *
  generalize signed3 n = sn at *
  obtain ⟨rm, ra, rh, rla, rlo, ri⟩ := R
  injection hR with e1 e2 e3 e4 e5 e6
  subst e1 e2 e3 e4 e5 e6
  have k0 := Blk.new w 32 zStC
  have B0 : Below w.heap.size w (w.alloc (.cells zStC 32)) := (Below.refl _ w).alloc (Nat.le_refl _) _
  generalize hl : legalB ⟨(m : Int), ra, rh, rla, rlo, (d : Int)⟩ = lg at *
  have d32 : (decide (f < 32) = true ∧ decide (32 ≤ f) = false) ∨ (decide (f < 32) = false ∧ decide (32 ≤ f) = true) := by
    by_cases h : f < 32
    · left; simp; omega
    · right; simp; omega
  rcases d32 with ⟨u1, u2⟩ | ⟨u1, u2⟩
  all_goals
    rw [u1] at hX
    cases lg
    all_goals
      rw [hX] at hS hE
      simp only [Bool.and_true, Bool.and_false, if_true, if_false, Bool.false_eq_true] at hS hE
      subst hS hE
      clear hX
      go_enter Tryz.func29, Tryz.ntmps29
      go_wp2_with (first | (with_reducible refine (hA _).mono ?_; rintro e w1 ⟨rfl, q1⟩) | (with_reducible refine (hB _).mono ?_; rintro e w2 ⟨rfl, q2⟩) | (rw [HG.out]; with_reducible refine (hL _).mono ?_; rintro e w3 ⟨rfl, q3⟩; (have c1 := k0.below q1 k0.lt; have c2 := c1.below q2 c1.lt; have c3 := c2.alloc (.cells (stC ⟨(m : Int), ra, rh, rla, rlo, (d : Int)⟩) 32); have c0 := c3.below q3 c3.lt; have j3 := Blk.new w2 32 (stC ⟨(m : Int), ra, rh, rla, rlo, (d : Int)⟩); have j0 := j3.below q3 j3.lt; have B3 := ((bthen (bthen B0 q1) q2).alloc (Nat.le_of_lt c2.lt) (.cells (stC ⟨(m : Int), ra, rh, rla, rlo, (d : Int)⟩) 32)).trans (q3.mono (Nat.le_of_lt c3.lt)); clear c1 c2 c3 j3 k0 B0 q1 q2 q3)) | (refine wpList_load_row rfl 32 (.tmp 5) rfl w2.heap.size rfl 32 _ (0, 0) _ j0 Tryz.underlying32 rfl (infoSt ⟨(m : Int), ra, rh, rla, rlo, (d : Int)⟩) ?_) | (refine wpList_store_row rfl 32 (.tmp 2) (.tmp 35) rfl w.heap.size (stC ⟨(m : Int), ra, rh, rla, rlo, (d : Int)⟩) rfl rfl 32 _ c0 (infoSt _) rfl (oneSt _) ?_) | (refine wpList_store_row rfl 32 (.tmp 2) (.tmp 34) rfl w.heap.size (stC st0) rfl rfl 32 _ c0 (infoSt st0) rfl (oneSt st0) ?_))
      all_goals first
        | (exfalso; simp at u1; omega)
        | exact bodyPost_ret (results_two rfl _ _ w.heap.size 32 (stC ⟨(m : Int), ra, rh, rla, rlo, (d : Int)⟩) (0, 0) _ (.int .i64 0) rfl rfl (c0.row _) Tryz.underlying32 rfl (infoSt _)) rfl ⟨rfl, bel_row B3 _ (Nat.le_refl _) _⟩
        | exact bodyPost_ret (results_two rfl _ _ w.heap.size 32 (stC st0) (0, 0) _ (.int .i64 13) rfl rfl (c0.row _) Tryz.underlying32 rfl (infoSt st0)) rfl ⟨rfl, bel_row B3 _ (Nat.le_refl _) _⟩
end Go.Proofs.YtebkeocpojlepaaGreatDoor

/- dogwatchref16: what a command makes of a state. -/
namespace Go.Proofs.YtebkeocpojlepaaGreatDoor
open Go.RowKit
set_option linter.unusedVariables false
set_option linter.unusedSimpArgs false

/-- a command -/
structure Cm where
  kind : Int
  n : Int
  lat : Nat
  lon : Nat
structure Cm.ok (c : Cm) : Prop where
  hk : (Lit.int .i64 c.kind).wf = true
  hn : (Lit.int .i64 c.n).wf = true
  ha : c.lat < 18446744073709551616
  ho : c.lon < 18446744073709551616
abbrev cmC (c : Cm) : Array Value := #[.int .i64 c.kind, .int .i64 c.n, .float .f64 c.lat, .float .f64 c.lon]
abbrev cmV (c : Cm) : Value := .agg (cmC c)

def bitI (n : Int) : Int := if n = 0 then 1 else if n = 1 then 2 else if n = 2 then 4 else 8
def hasI (i n : Int) : Bool := i / bitI n % 2 == 1
def setI (i n : Int) : Int := if hasI i n then i else i + bitI n
def offI (i n : Int) : Int := if hasI i n then i - bitI n else i

def goesE (s : St) (n : Int) : Int :=
  if wayB s.mode n = false then 20 else if s.armed = false ∧ n ≠ 0 then 22 else if s.armed = true ∧ n = 0 then 21 else if homeB n = true ∧ s.home = false then 23 else if soundI s.iso < needsI n then 24 else 0
def L90 : Nat := 4636033603912859648
def L180 : Nat := 4640537203540230144
/-- the error of a command -/
def deltaE (s : St) (c : Cm) : Int :=
  if c.kind = 1 then goesE s c.n
  else if c.kind = 2 then (if s.armed then 21 else if soundI s.iso < 2 then 24 else 0)
  else if c.kind = 3 then (if s.armed = false then 22 else if s.mode ≠ 1 ∧ s.mode ≠ 5 then 20 else 0)
  else if c.kind = 4 then (if fixE c.lat L90 ≠ 0 then fixE c.lat L90 else fixE c.lon L180)
  else if c.kind = 5 then (if c.n < 0 ∨ 3 < c.n then 1 else if hasI s.iso c.n = false ∧ soundI s.iso - 1 < needsI s.mode then 24 else 0)
  else if c.kind = 6 then (if c.n < 0 ∨ 3 < c.n then 1 else 0)
  else 1
/-- what a command that is no error makes of a state -/
def deltaK (s : St) (c : Cm) : St :=
  if c.kind = 1 then { s with mode := c.n }
  else if c.kind = 2 then { s with armed := true, mode := 1 }
  else if c.kind = 3 then { s with armed := false, mode := 0 }
  else if c.kind = 4 then { s with home := true, lat := fixV c.lat L90, lon := fixV c.lon L180 }
  else if c.kind = 5 then { s with iso := setI s.iso c.n }
  else if c.kind = 6 then { s with iso := offI s.iso c.n }
  else s
def deltaS (s : St) (c : Cm) : St := if deltaE s c = 0 then deltaK s c else s

theorem infoR (s : St) : (Tryz.prog.info? 39).map (·.size) = some (stC s).size := by kernel_rfl
theorem limA : LimF 90 L90 := .inl ⟨rfl, rfl⟩
theorem limB : LimF 180 L180 := .inr ⟨rfl, rfl⟩


set_option maxRecDepth 100000 in
set_option maxHeartbeats 4000000 in
theorem rgoes_any (s : St) (hs : s.ok) (n : Int) (w : World) : Calls Tryz.prog 20 #[stV s, .int .i64 n] w fun e w' =>
    e = .returned (.tuple #[stV (if goesE s n = 0 then { s with mode := n } else s), .int .i64 (goesE s n)]) ∧ Below w.heap.size w w' := by
  have hS := r14Sound s hs
  have hW := r15Way s.mode n
  have hH := r15Home n
  have hN := r15Needs n
  have hG : goesE s n = if wayB s.mode n = false then 20 else if s.armed = false ∧ n ≠ 0 then 22 else if s.armed = true ∧ n = 0 then 21 else if homeB n = true ∧ s.home = false then 23 else if soundI s.iso < needsI n then 24 else 0 := rfl
  generalize goesE s n = G at *
  generalize wayB s.mode n = wy at *
  generalize homeB n = hb at *
  generalize soundI s.iso = so at *
  generalize needsI n = ne at *
  obtain ⟨m, ar, ho, la, lo, is⟩ := s
  simp only at hG hW hS
  have kF := (Blk.new w 39 (stC ⟨m, ar, ho, la, lo, is⟩)).alloc (.cells zStC 39)
  have kZ := Blk.new (w.alloc (.cells (stC ⟨m, ar, ho, la, lo, is⟩) 39)) 39 zStC
  rw [World.size_alloc] at kZ
  have B0 : Below w.heap.size w ((w.alloc (.cells (stC ⟨m, ar, ho, la, lo, is⟩) 39)).alloc (.cells zStC 39)) := ((Below.refl _ w).alloc (Nat.le_refl _) _).alloc (by simp) _
  cases wy
  · obtain rfl : G = 20 := hG.trans (if_pos rfl)
    rw [if_neg (by decide)]
    clear hG
    go_enter Tryz.func20, Tryz.ntmps20
    go_wp2_with fail
    generalize World.alloc (World.alloc w _) _ = W0 at *
    have r_0 := kF.cell 0
    have r_1 := kF.cell 1
    have r_2 := kF.cell 2
    have r_3 := kF.cell 3
    have r_4 := kF.cell 4
    have r_5 := kF.cell 5
    simp at r_0 r_1 r_2 r_3 r_4 r_5
    go_wp2_with (first | (with_reducible refine (hW _).mono ?_; rintro e w1 ⟨rfl, rfl⟩) | (with_reducible refine (hH _).mono ?_; rintro e w2 ⟨rfl, rfl⟩) | (refine wpList_load_row rfl 39 (.tmp 2) rfl w.heap.size rfl 39 (stC ⟨m, _, _, la, lo, is⟩) (0, 0) _ kF Tryz.underlying39 rfl (infoR _) ?_) | (refine wpList_store_row rfl 39 (.tmp 4) (.tmp 12) rfl (w.heap.size + 1) (stC ⟨m, _, _, la, lo, is⟩) rfl rfl 39 _ kZ (infoR _) rfl (oneSt _) ?_))
    exact bodyPost_ret (results_two rfl _ _ (w.heap.size + 1) 39 (stC (⟨m, _, _, la, lo, is⟩ : St)) (0, 0) _ (.int .i64 20) rfl rfl (kZ.row _) Tryz.underlying39 rfl (infoR (⟨m, _, _, la, lo, is⟩ : St))) rfl ⟨rfl, bel_row B0 _ (Nat.le_succ _) _⟩
  rw [if_neg (by decide)] at hG
  by_cases h0 : n = 0
  · subst h0
    cases ar
    · rw [if_neg (by simp), if_neg (by simp)] at hG
      cases hb
      case true =>
        cases ho
        case false =>
          obtain rfl : G = 23 := by rw [hG, if_pos (by simp)]
          rw [if_neg (by decide)]
          clear hG
          go_enter Tryz.func20, Tryz.ntmps20
          go_wp2_with fail
          generalize World.alloc (World.alloc w _) _ = W0 at *
          have r_0 := kF.cell 0
          have r_1 := kF.cell 1
          have r_2 := kF.cell 2
          have r_3 := kF.cell 3
          have r_4 := kF.cell 4
          have r_5 := kF.cell 5
          simp at r_0 r_1 r_2 r_3 r_4 r_5
          go_wp2_with (first | (with_reducible refine (hW _).mono ?_; rintro e w1 ⟨rfl, rfl⟩) | (with_reducible refine (hH _).mono ?_; rintro e w2 ⟨rfl, rfl⟩) | (refine wpList_load_row rfl 39 (.tmp 2) rfl w.heap.size rfl 39 (stC ⟨m, _, _, la, lo, is⟩) (0, 0) _ kF Tryz.underlying39 rfl (infoR _) ?_) | (refine wpList_store_row rfl 39 (.tmp 4) (.tmp 38) rfl (w.heap.size + 1) (stC ⟨m, _, _, la, lo, is⟩) rfl rfl 39 _ kZ (infoR _) rfl (oneSt _) ?_))
          exact bodyPost_ret (results_two rfl _ _ (w.heap.size + 1) 39 (stC (⟨m, _, _, la, lo, is⟩ : St)) (0, 0) _ (.int .i64 23) rfl rfl (kZ.row _) Tryz.underlying39 rfl (infoR (⟨m, _, _, la, lo, is⟩ : St))) rfl ⟨rfl, bel_row B0 _ (Nat.le_succ _) _⟩
        case true =>
          rw [if_neg (by simp)] at hG
          by_cases hlt : so < ne
          · obtain rfl : G = 24 := by rw [hG, if_pos hlt]
            rw [if_neg (by decide)]
            clear hG
            go_enter Tryz.func20, Tryz.ntmps20
            go_wp2_with fail
            generalize World.alloc (World.alloc w _) _ = W0 at *
            have r_0 := kF.cell 0
            have r_1 := kF.cell 1
            have r_2 := kF.cell 2
            have r_3 := kF.cell 3
            have r_4 := kF.cell 4
            have r_5 := kF.cell 5
            simp at r_0 r_1 r_2 r_3 r_4 r_5
            go_wp2_with (first | (with_reducible refine (hW _).mono ?_; rintro e w1 ⟨rfl, rfl⟩) | (with_reducible refine (hH _).mono ?_; rintro e w2 ⟨rfl, rfl⟩) | ((with_reducible refine (hS _).mono ?_); rintro e w3 ⟨rfl, q3⟩; replace kF := kF.below q3 kF.lt; replace kZ := kZ.below q3 kZ.lt; replace B0 := bthen B0 q3) | (with_reducible refine (hN _).mono ?_; rintro e w4 ⟨rfl, rfl⟩) | (refine wpList_load_row rfl 39 (.tmp 2) rfl w.heap.size rfl 39 (stC ⟨m, _, _, la, lo, is⟩) (0, 0) _ kF Tryz.underlying39 rfl (infoR _) ?_) | (refine wpList_store_row rfl 39 (.tmp 4) (.tmp 45) rfl (w.heap.size + 1) (stC ⟨m, _, _, la, lo, is⟩) rfl rfl 39 _ kZ (infoR _) rfl (oneSt _) ?_))
            exact bodyPost_ret (results_two rfl _ _ (w.heap.size + 1) 39 (stC (⟨m, _, _, la, lo, is⟩ : St)) (0, 0) _ (.int .i64 24) rfl rfl (kZ.row _) Tryz.underlying39 rfl (infoR (⟨m, _, _, la, lo, is⟩ : St))) rfl ⟨rfl, bel_row B0 _ (Nat.le_succ _) _⟩
          · obtain rfl : G = 0 := by rw [hG, if_neg hlt]
            rw [if_pos rfl]
            clear hG
            go_enter Tryz.func20, Tryz.ntmps20
            go_wp2_with fail
            generalize World.alloc (World.alloc w _) _ = W0 at *
            have r_0 := kF.cell 0
            have r_1 := kF.cell 1
            have r_2 := kF.cell 2
            have r_3 := kF.cell 3
            have r_4 := kF.cell 4
            have r_5 := kF.cell 5
            simp at r_0 r_1 r_2 r_3 r_4 r_5
            go_wp2_with (first | (with_reducible refine (hW _).mono ?_; rintro e w1 ⟨rfl, rfl⟩) | (with_reducible refine (hH _).mono ?_; rintro e w2 ⟨rfl, rfl⟩) | ((with_reducible refine (hS _).mono ?_); rintro e w3 ⟨rfl, q3⟩; replace kF := kF.below q3 kF.lt; replace kZ := kZ.below q3 kZ.lt; replace B0 := bthen B0 q3; have z0 := kF.frozen 0; have z1 := kF.cell 0; simp at z1) | (with_reducible refine (hN _).mono ?_; rintro e w4 ⟨rfl, rfl⟩) | (replace kF := kF.set 0 (.int .i64 0); replace kZ := kZ.other ⟨w.heap.size, 0, none⟩ (by show w.heap.size + 1 ≠ w.heap.size; omega) (.int .i64 0); replace B0 := B0.setCell (p := ⟨w.heap.size, 0, none⟩) (Nat.le_refl _) (.int .i64 0); (refine wpList_load_row rfl 39 (.tmp 2) rfl w.heap.size rfl 39 (stC ⟨0, _, _, la, lo, is⟩) (0, 0) _ kF Tryz.underlying39 rfl (infoR _) ?_)) | (refine wpList_store_row rfl 39 (.tmp 4) (.tmp 48) rfl (w.heap.size + 1) (stC ⟨0, _, _, la, lo, is⟩) rfl rfl 39 _ kZ (infoR _) rfl (oneSt _) ?_))
            exact bodyPost_ret (results_two rfl _ _ (w.heap.size + 1) 39 (stC (⟨0, _, _, la, lo, is⟩ : St)) (0, 0) _ (.int .i64 0) rfl rfl (kZ.row _) Tryz.underlying39 rfl (infoR (⟨0, _, _, la, lo, is⟩ : St))) rfl ⟨rfl, bel_row B0 _ (Nat.le_succ _) _⟩
      case false =>
        rw [if_neg (by simp)] at hG
        by_cases hlt : so < ne
        · obtain rfl : G = 24 := by rw [hG, if_pos hlt]
          rw [if_neg (by decide)]
          clear hG
          go_enter Tryz.func20, Tryz.ntmps20
          go_wp2_with fail
          generalize World.alloc (World.alloc w _) _ = W0 at *
          have r_0 := kF.cell 0
          have r_1 := kF.cell 1
          have r_2 := kF.cell 2
          have r_3 := kF.cell 3
          have r_4 := kF.cell 4
          have r_5 := kF.cell 5
          simp at r_0 r_1 r_2 r_3 r_4 r_5
          go_wp2_with (first | (with_reducible refine (hW _).mono ?_; rintro e w1 ⟨rfl, rfl⟩) | (with_reducible refine (hH _).mono ?_; rintro e w2 ⟨rfl, rfl⟩) | ((with_reducible refine (hS _).mono ?_); rintro e w3 ⟨rfl, q3⟩; replace kF := kF.below q3 kF.lt; replace kZ := kZ.below q3 kZ.lt; replace B0 := bthen B0 q3) | (with_reducible refine (hN _).mono ?_; rintro e w4 ⟨rfl, rfl⟩) | (refine wpList_load_row rfl 39 (.tmp 2) rfl w.heap.size rfl 39 (stC ⟨m, _, _, la, lo, is⟩) (0, 0) _ kF Tryz.underlying39 rfl (infoR _) ?_) | (refine wpList_store_row rfl 39 (.tmp 4) (.tmp 45) rfl (w.heap.size + 1) (stC ⟨m, _, _, la, lo, is⟩) rfl rfl 39 _ kZ (infoR _) rfl (oneSt _) ?_))
          exact bodyPost_ret (results_two rfl _ _ (w.heap.size + 1) 39 (stC (⟨m, _, _, la, lo, is⟩ : St)) (0, 0) _ (.int .i64 24) rfl rfl (kZ.row _) Tryz.underlying39 rfl (infoR (⟨m, _, _, la, lo, is⟩ : St))) rfl ⟨rfl, bel_row B0 _ (Nat.le_succ _) _⟩
        · obtain rfl : G = 0 := by rw [hG, if_neg hlt]
          rw [if_pos rfl]
          clear hG
          go_enter Tryz.func20, Tryz.ntmps20
          go_wp2_with fail
          generalize World.alloc (World.alloc w _) _ = W0 at *
          have r_0 := kF.cell 0
          have r_1 := kF.cell 1
          have r_2 := kF.cell 2
          have r_3 := kF.cell 3
          have r_4 := kF.cell 4
          have r_5 := kF.cell 5
          simp at r_0 r_1 r_2 r_3 r_4 r_5
          go_wp2_with (first | (with_reducible refine (hW _).mono ?_; rintro e w1 ⟨rfl, rfl⟩) | (with_reducible refine (hH _).mono ?_; rintro e w2 ⟨rfl, rfl⟩) | ((with_reducible refine (hS _).mono ?_); rintro e w3 ⟨rfl, q3⟩; replace kF := kF.below q3 kF.lt; replace kZ := kZ.below q3 kZ.lt; replace B0 := bthen B0 q3; have z0 := kF.frozen 0; have z1 := kF.cell 0; simp at z1) | (with_reducible refine (hN _).mono ?_; rintro e w4 ⟨rfl, rfl⟩) | (replace kF := kF.set 0 (.int .i64 0); replace kZ := kZ.other ⟨w.heap.size, 0, none⟩ (by show w.heap.size + 1 ≠ w.heap.size; omega) (.int .i64 0); replace B0 := B0.setCell (p := ⟨w.heap.size, 0, none⟩) (Nat.le_refl _) (.int .i64 0); (refine wpList_load_row rfl 39 (.tmp 2) rfl w.heap.size rfl 39 (stC ⟨0, _, _, la, lo, is⟩) (0, 0) _ kF Tryz.underlying39 rfl (infoR _) ?_)) | (refine wpList_store_row rfl 39 (.tmp 4) (.tmp 48) rfl (w.heap.size + 1) (stC ⟨0, _, _, la, lo, is⟩) rfl rfl 39 _ kZ (infoR _) rfl (oneSt _) ?_))
          exact bodyPost_ret (results_two rfl _ _ (w.heap.size + 1) 39 (stC (⟨0, _, _, la, lo, is⟩ : St)) (0, 0) _ (.int .i64 0) rfl rfl (kZ.row _) Tryz.underlying39 rfl (infoR (⟨0, _, _, la, lo, is⟩ : St))) rfl ⟨rfl, bel_row B0 _ (Nat.le_succ _) _⟩
    · obtain rfl : G = 21 := by rw [hG, if_neg (by simp), if_pos (by simp)]
      rw [if_neg (by decide)]
      clear hG
      go_enter Tryz.func20, Tryz.ntmps20
      go_wp2_with fail
      generalize World.alloc (World.alloc w _) _ = W0 at *
      have r_0 := kF.cell 0
      have r_1 := kF.cell 1
      have r_2 := kF.cell 2
      have r_3 := kF.cell 3
      have r_4 := kF.cell 4
      have r_5 := kF.cell 5
      simp at r_0 r_1 r_2 r_3 r_4 r_5
      go_wp2_with (first | (with_reducible refine (hW _).mono ?_; rintro e w1 ⟨rfl, rfl⟩) | (with_reducible refine (hH _).mono ?_; rintro e w2 ⟨rfl, rfl⟩) | (refine wpList_load_row rfl 39 (.tmp 2) rfl w.heap.size rfl 39 (stC ⟨m, _, _, la, lo, is⟩) (0, 0) _ kF Tryz.underlying39 rfl (infoR _) ?_) | (refine wpList_store_row rfl 39 (.tmp 4) (.tmp 29) rfl (w.heap.size + 1) (stC ⟨m, _, _, la, lo, is⟩) rfl rfl 39 _ kZ (infoR _) rfl (oneSt _) ?_))
      exact bodyPost_ret (results_two rfl _ _ (w.heap.size + 1) 39 (stC (⟨m, _, _, la, lo, is⟩ : St)) (0, 0) _ (.int .i64 21) rfl rfl (kZ.row _) Tryz.underlying39 rfl (infoR (⟨m, _, _, la, lo, is⟩ : St))) rfl ⟨rfl, bel_row B0 _ (Nat.le_succ _) _⟩
  · have n0 : ¬ n = 0 := h0
    cases ar
    · obtain rfl : G = 22 := by rw [hG, if_pos (by simp [h0])]
      rw [if_neg (by decide)]
      clear hG
      go_enter Tryz.func20, Tryz.ntmps20
      go_wp2_with fail
      generalize World.alloc (World.alloc w _) _ = W0 at *
      have r_0 := kF.cell 0
      have r_1 := kF.cell 1
      have r_2 := kF.cell 2
      have r_3 := kF.cell 3
      have r_4 := kF.cell 4
      have r_5 := kF.cell 5
      simp at r_0 r_1 r_2 r_3 r_4 r_5
      go_wp2_with (first | (with_reducible refine (hW _).mono ?_; rintro e w1 ⟨rfl, rfl⟩) | (with_reducible refine (hH _).mono ?_; rintro e w2 ⟨rfl, rfl⟩) | (refine wpList_load_row rfl 39 (.tmp 2) rfl w.heap.size rfl 39 (stC ⟨m, _, _, la, lo, is⟩) (0, 0) _ kF Tryz.underlying39 rfl (infoR _) ?_) | (refine wpList_store_row rfl 39 (.tmp 4) (.tmp 21) rfl (w.heap.size + 1) (stC ⟨m, _, _, la, lo, is⟩) rfl rfl 39 _ kZ (infoR _) rfl (oneSt _) ?_))
      exact bodyPost_ret (results_two rfl _ _ (w.heap.size + 1) 39 (stC (⟨m, _, _, la, lo, is⟩ : St)) (0, 0) _ (.int .i64 22) rfl rfl (kZ.row _) Tryz.underlying39 rfl (infoR (⟨m, _, _, la, lo, is⟩ : St))) rfl ⟨rfl, bel_row B0 _ (Nat.le_succ _) _⟩
    · rw [if_neg (by simp), if_neg (by simp [h0])] at hG
      cases hb
      case true =>
        cases ho
        case false =>
          obtain rfl : G = 23 := by rw [hG, if_pos (by simp)]
          rw [if_neg (by decide)]
          clear hG
          go_enter Tryz.func20, Tryz.ntmps20
          go_wp2_with fail
          generalize World.alloc (World.alloc w _) _ = W0 at *
          have r_0 := kF.cell 0
          have r_1 := kF.cell 1
          have r_2 := kF.cell 2
          have r_3 := kF.cell 3
          have r_4 := kF.cell 4
          have r_5 := kF.cell 5
          simp at r_0 r_1 r_2 r_3 r_4 r_5
          go_wp2_with (first | (with_reducible refine (hW _).mono ?_; rintro e w1 ⟨rfl, rfl⟩) | (with_reducible refine (hH _).mono ?_; rintro e w2 ⟨rfl, rfl⟩) | (refine wpList_load_row rfl 39 (.tmp 2) rfl w.heap.size rfl 39 (stC ⟨m, _, _, la, lo, is⟩) (0, 0) _ kF Tryz.underlying39 rfl (infoR _) ?_) | (refine wpList_store_row rfl 39 (.tmp 4) (.tmp 38) rfl (w.heap.size + 1) (stC ⟨m, _, _, la, lo, is⟩) rfl rfl 39 _ kZ (infoR _) rfl (oneSt _) ?_))
          exact bodyPost_ret (results_two rfl _ _ (w.heap.size + 1) 39 (stC (⟨m, _, _, la, lo, is⟩ : St)) (0, 0) _ (.int .i64 23) rfl rfl (kZ.row _) Tryz.underlying39 rfl (infoR (⟨m, _, _, la, lo, is⟩ : St))) rfl ⟨rfl, bel_row B0 _ (Nat.le_succ _) _⟩
        case true =>
          rw [if_neg (by simp)] at hG
          by_cases hlt : so < ne
          · obtain rfl : G = 24 := by rw [hG, if_pos hlt]
            rw [if_neg (by decide)]
            clear hG
            go_enter Tryz.func20, Tryz.ntmps20
            go_wp2_with fail
            generalize World.alloc (World.alloc w _) _ = W0 at *
            have r_0 := kF.cell 0
            have r_1 := kF.cell 1
            have r_2 := kF.cell 2
            have r_3 := kF.cell 3
            have r_4 := kF.cell 4
            have r_5 := kF.cell 5
            simp at r_0 r_1 r_2 r_3 r_4 r_5
            go_wp2_with (first | (with_reducible refine (hW _).mono ?_; rintro e w1 ⟨rfl, rfl⟩) | (with_reducible refine (hH _).mono ?_; rintro e w2 ⟨rfl, rfl⟩) | ((with_reducible refine (hS _).mono ?_); rintro e w3 ⟨rfl, q3⟩; replace kF := kF.below q3 kF.lt; replace kZ := kZ.below q3 kZ.lt; replace B0 := bthen B0 q3) | (with_reducible refine (hN _).mono ?_; rintro e w4 ⟨rfl, rfl⟩) | (refine wpList_load_row rfl 39 (.tmp 2) rfl w.heap.size rfl 39 (stC ⟨m, _, _, la, lo, is⟩) (0, 0) _ kF Tryz.underlying39 rfl (infoR _) ?_) | (refine wpList_store_row rfl 39 (.tmp 4) (.tmp 45) rfl (w.heap.size + 1) (stC ⟨m, _, _, la, lo, is⟩) rfl rfl 39 _ kZ (infoR _) rfl (oneSt _) ?_))
            exact bodyPost_ret (results_two rfl _ _ (w.heap.size + 1) 39 (stC (⟨m, _, _, la, lo, is⟩ : St)) (0, 0) _ (.int .i64 24) rfl rfl (kZ.row _) Tryz.underlying39 rfl (infoR (⟨m, _, _, la, lo, is⟩ : St))) rfl ⟨rfl, bel_row B0 _ (Nat.le_succ _) _⟩
          · obtain rfl : G = 0 := by rw [hG, if_neg hlt]
            rw [if_pos rfl]
            clear hG
            go_enter Tryz.func20, Tryz.ntmps20
            go_wp2_with fail
            generalize World.alloc (World.alloc w _) _ = W0 at *
            have r_0 := kF.cell 0
            have r_1 := kF.cell 1
            have r_2 := kF.cell 2
            have r_3 := kF.cell 3
            have r_4 := kF.cell 4
            have r_5 := kF.cell 5
            simp at r_0 r_1 r_2 r_3 r_4 r_5
            go_wp2_with (first | (with_reducible refine (hW _).mono ?_; rintro e w1 ⟨rfl, rfl⟩) | (with_reducible refine (hH _).mono ?_; rintro e w2 ⟨rfl, rfl⟩) | ((with_reducible refine (hS _).mono ?_); rintro e w3 ⟨rfl, q3⟩; replace kF := kF.below q3 kF.lt; replace kZ := kZ.below q3 kZ.lt; replace B0 := bthen B0 q3; have z0 := kF.frozen 0; have z1 := kF.cell 0; simp at z1) | (with_reducible refine (hN _).mono ?_; rintro e w4 ⟨rfl, rfl⟩) | (replace kF := kF.set 0 (.int .i64 n); replace kZ := kZ.other ⟨w.heap.size, 0, none⟩ (by show w.heap.size + 1 ≠ w.heap.size; omega) (.int .i64 n); replace B0 := B0.setCell (p := ⟨w.heap.size, 0, none⟩) (Nat.le_refl _) (.int .i64 n); (refine wpList_load_row rfl 39 (.tmp 2) rfl w.heap.size rfl 39 (stC ⟨n, _, _, la, lo, is⟩) (0, 0) _ kF Tryz.underlying39 rfl (infoR _) ?_)) | (refine wpList_store_row rfl 39 (.tmp 4) (.tmp 48) rfl (w.heap.size + 1) (stC ⟨n, _, _, la, lo, is⟩) rfl rfl 39 _ kZ (infoR _) rfl (oneSt _) ?_))
            exact bodyPost_ret (results_two rfl _ _ (w.heap.size + 1) 39 (stC (⟨n, _, _, la, lo, is⟩ : St)) (0, 0) _ (.int .i64 0) rfl rfl (kZ.row _) Tryz.underlying39 rfl (infoR (⟨n, _, _, la, lo, is⟩ : St))) rfl ⟨rfl, bel_row B0 _ (Nat.le_succ _) _⟩
      case false =>
        rw [if_neg (by simp)] at hG
        by_cases hlt : so < ne
        · obtain rfl : G = 24 := by rw [hG, if_pos hlt]
          rw [if_neg (by decide)]
          clear hG
          go_enter Tryz.func20, Tryz.ntmps20
          go_wp2_with fail
          generalize World.alloc (World.alloc w _) _ = W0 at *
          have r_0 := kF.cell 0
          have r_1 := kF.cell 1
          have r_2 := kF.cell 2
          have r_3 := kF.cell 3
          have r_4 := kF.cell 4
          have r_5 := kF.cell 5
          simp at r_0 r_1 r_2 r_3 r_4 r_5
          go_wp2_with (first | (with_reducible refine (hW _).mono ?_; rintro e w1 ⟨rfl, rfl⟩) | (with_reducible refine (hH _).mono ?_; rintro e w2 ⟨rfl, rfl⟩) | ((with_reducible refine (hS _).mono ?_); rintro e w3 ⟨rfl, q3⟩; replace kF := kF.below q3 kF.lt; replace kZ := kZ.below q3 kZ.lt; replace B0 := bthen B0 q3) | (with_reducible refine (hN _).mono ?_; rintro e w4 ⟨rfl, rfl⟩) | (refine wpList_load_row rfl 39 (.tmp 2) rfl w.heap.size rfl 39 (stC ⟨m, _, _, la, lo, is⟩) (0, 0) _ kF Tryz.underlying39 rfl (infoR _) ?_) | (refine wpList_store_row rfl 39 (.tmp 4) (.tmp 45) rfl (w.heap.size + 1) (stC ⟨m, _, _, la, lo, is⟩) rfl rfl 39 _ kZ (infoR _) rfl (oneSt _) ?_))
          exact bodyPost_ret (results_two rfl _ _ (w.heap.size + 1) 39 (stC (⟨m, _, _, la, lo, is⟩ : St)) (0, 0) _ (.int .i64 24) rfl rfl (kZ.row _) Tryz.underlying39 rfl (infoR (⟨m, _, _, la, lo, is⟩ : St))) rfl ⟨rfl, bel_row B0 _ (Nat.le_succ _) _⟩
        · obtain rfl : G = 0 := by rw [hG, if_neg hlt]
          rw [if_pos rfl]
          clear hG
          go_enter Tryz.func20, Tryz.ntmps20
          go_wp2_with fail
          generalize World.alloc (World.alloc w _) _ = W0 at *
          have r_0 := kF.cell 0
          have r_1 := kF.cell 1
          have r_2 := kF.cell 2
          have r_3 := kF.cell 3
          have r_4 := kF.cell 4
          have r_5 := kF.cell 5
          simp at r_0 r_1 r_2 r_3 r_4 r_5
          go_wp2_with (first | (with_reducible refine (hW _).mono ?_; rintro e w1 ⟨rfl, rfl⟩) | (with_reducible refine (hH _).mono ?_; rintro e w2 ⟨rfl, rfl⟩) | ((with_reducible refine (hS _).mono ?_); rintro e w3 ⟨rfl, q3⟩; replace kF := kF.below q3 kF.lt; replace kZ := kZ.below q3 kZ.lt; replace B0 := bthen B0 q3; have z0 := kF.frozen 0; have z1 := kF.cell 0; simp at z1) | (with_reducible refine (hN _).mono ?_; rintro e w4 ⟨rfl, rfl⟩) | (replace kF := kF.set 0 (.int .i64 n); replace kZ := kZ.other ⟨w.heap.size, 0, none⟩ (by show w.heap.size + 1 ≠ w.heap.size; omega) (.int .i64 n); replace B0 := B0.setCell (p := ⟨w.heap.size, 0, none⟩) (Nat.le_refl _) (.int .i64 n); (refine wpList_load_row rfl 39 (.tmp 2) rfl w.heap.size rfl 39 (stC ⟨n, _, _, la, lo, is⟩) (0, 0) _ kF Tryz.underlying39 rfl (infoR _) ?_)) | (refine wpList_store_row rfl 39 (.tmp 4) (.tmp 48) rfl (w.heap.size + 1) (stC ⟨n, _, _, la, lo, is⟩) rfl rfl 39 _ kZ (infoR _) rfl (oneSt _) ?_))
          exact bodyPost_ret (results_two rfl _ _ (w.heap.size + 1) 39 (stC (⟨n, _, _, la, lo, is⟩ : St)) (0, 0) _ (.int .i64 0) rfl rfl (kZ.row _) Tryz.underlying39 rfl (infoR (⟨n, _, _, la, lo, is⟩ : St))) rfl ⟨rfl, bel_row B0 _ (Nat.le_succ _) _⟩
end Go.Proofs.YtebkeocpojlepaaGreatDoor

/- dogwatchref16.home. -/
namespace Go.Proofs.YtebkeocpojlepaaGreatDoor
open Go.RowKit
set_option linter.unusedVariables false
set_option linter.unusedSimpArgs false

theorem infoC (c : Cm) : (Tryz.prog.info? 44).map (·.size) = some (cmC c).size := by kernel_rfl
set_option maxRecDepth 100000 in
set_option maxHeartbeats 4000000 in
theorem rhome_any (s : St) (hs : s.ok) (c : Cm) (hc : c.ok) (w : World) : Calls Tryz.prog 22 #[stV s, cmV c] w fun e w' =>
    e = .returned (.tuple #[stV (if (if fixE c.lat L90 ≠ 0 then fixE c.lat L90 else fixE c.lon L180) = 0 then { s with home := true, lat := fixV c.lat L90, lon := fixV c.lon L180 } else s), .int .i64 (if fixE c.lat L90 ≠ 0 then fixE c.lat L90 else fixE c.lon L180)]) ∧ Below w.heap.size w w' := by
  have hA := rFix_any c.lat hc.ha 90 L90 limA
  have hB := rFix_any c.lon hc.ho 180 L180 limB
  generalize fixE c.lat L90 = ea at *
  generalize fixE c.lon L180 = eb at *
  generalize fixV c.lat L90 = va at *
  generalize fixV c.lon L180 = vb at *
  obtain ⟨m, ar, ho, la, lo, is⟩ := s
  obtain ⟨ck, cn, ca, co⟩ := c
  simp only at hA hB
  have kF := ((Blk.new w 39 (stC ⟨m, ar, ho, la, lo, is⟩)).alloc (.cells (cmC ⟨ck, cn, ca, co⟩) 44)).alloc (.cells zStC 39)
  have kC := (Blk.new (w.alloc (.cells (stC ⟨m, ar, ho, la, lo, is⟩) 39)) 44 (cmC ⟨ck, cn, ca, co⟩)).alloc (.cells zStC 39)
  have kZ := Blk.new ((w.alloc (.cells (stC ⟨m, ar, ho, la, lo, is⟩) 39)).alloc (.cells (cmC ⟨ck, cn, ca, co⟩) 44)) 39 zStC
  simp only [World.size_alloc] at kC kZ
  have B0 : Below w.heap.size w (((w.alloc (.cells (stC ⟨m, ar, ho, la, lo, is⟩) 39)).alloc (.cells (cmC ⟨ck, cn, ca, co⟩) 44)).alloc (.cells zStC 39)) := (((Below.refl _ w).alloc (Nat.le_refl _) _).alloc (by simp) _).alloc (by simp; omega) _
  clear hs hc
  by_cases h1 : ea = 0
  · rw [if_neg (show ¬ ea ≠ 0 by simpa using h1)]
    by_cases h2 : eb = 0
    · rw [if_pos h2]
      subst h1 h2
      go_enter Tryz.func22, Tryz.ntmps22
      go_wp2_with fail
      generalize World.alloc (World.alloc (World.alloc w _) _) _ = W0 at *
      have r_0 := kC.cell 0
      have r_1 := kC.cell 1
      have r_2 := kC.cell 2
      have r_3 := kC.cell 3
      simp at r_0 r_1 r_2 r_3
      go_wp2_with (first | ((with_reducible refine (hA _).mono ?_); rintro e w1 ⟨rfl, q1⟩; (replace kF := kF.below q1 kF.lt; replace kC := kC.below q1 kC.lt; replace kZ := kZ.below q1 kZ.lt; replace B0 := bthen B0 q1; have t_0 := kC.cell 2; have t_1 := kC.cell 3; simp at t_0 t_1; have f_2 := kF.frozen 2; have f_3 := kF.frozen 3; have f_4 := kF.frozen 4; have c_0 := kF.cell 0; have c_1 := kF.cell 1; have c_2 := kF.cell 2; have c_3 := kF.cell 3; have c_4 := kF.cell 4; have c_5 := kF.cell 5; simp at c_0 c_1 c_2 c_3 c_4 c_5)) | ((with_reducible refine (hB _).mono ?_); rintro e w2 ⟨rfl, q2⟩; (replace kF := kF.below q2 kF.lt; replace kC := kC.below q2 kC.lt; replace kZ := kZ.below q2 kZ.lt; replace B0 := bthen B0 q2; have t_0 := kC.cell 2; have t_1 := kC.cell 3; simp at t_0 t_1; have f_2 := kF.frozen 2; have f_3 := kF.frozen 3; have f_4 := kF.frozen 4; have c_0 := kF.cell 0; have c_1 := kF.cell 1; have c_2 := kF.cell 2; have c_3 := kF.cell 3; have c_4 := kF.cell 4; have c_5 := kF.cell 5; simp at c_0 c_1 c_2 c_3 c_4 c_5); (replace kC := kC.other ⟨w.heap.size, 2, none⟩ (by show w.heap.size + 1 ≠ w.heap.size; omega) (.bool true); replace kZ := kZ.other ⟨w.heap.size, 2, none⟩ (by show w.heap.size + 1 + 1 ≠ w.heap.size; omega) (.bool true); replace B0 := B0.setCell (p := ⟨w.heap.size, 2, none⟩) (Nat.le_refl _) (.bool true)); (replace kC := kC.other ⟨w.heap.size, 3, none⟩ (by show w.heap.size + 1 ≠ w.heap.size; omega) (.int .i64 va); replace kZ := kZ.other ⟨w.heap.size, 3, none⟩ (by show w.heap.size + 1 + 1 ≠ w.heap.size; omega) (.int .i64 va); replace B0 := B0.setCell (p := ⟨w.heap.size, 3, none⟩) (Nat.le_refl _) (.int .i64 va)); (replace kC := kC.other ⟨w.heap.size, 4, none⟩ (by show w.heap.size + 1 ≠ w.heap.size; omega) (.int .i64 vb); replace kZ := kZ.other ⟨w.heap.size, 4, none⟩ (by show w.heap.size + 1 + 1 ≠ w.heap.size; omega) (.int .i64 vb); replace B0 := B0.setCell (p := ⟨w.heap.size, 4, none⟩) (Nat.le_refl _) (.int .i64 vb))) | (refine wpList_store_row rfl 39 (.tmp 4) (.tmp 35) rfl (w.heap.size + 1 + 1) (stC ⟨m, ar, true, va, vb, is⟩) rfl rfl 39 _ kZ (infoR _) rfl (oneSt _) ?_))
      exact bodyPost_ret (results_two rfl _ _ (w.heap.size + 1 + 1) 39 (stC (⟨m, ar, true, va, vb, is⟩ : St)) (0, 0) _ (.int .i64 0) rfl rfl (kZ.row _) Tryz.underlying39 rfl (infoR (⟨m, ar, true, va, vb, is⟩ : St))) rfl ⟨rfl, bel_row B0 _ (by omega) _⟩
    · rw [if_neg h2]
      subst h1
      go_enter Tryz.func22, Tryz.ntmps22
      go_wp2_with fail
      generalize World.alloc (World.alloc (World.alloc w _) _) _ = W0 at *
      have r_0 := kC.cell 0
      have r_1 := kC.cell 1
      have r_2 := kC.cell 2
      have r_3 := kC.cell 3
      simp at r_0 r_1 r_2 r_3
      go_wp2_with (first | ((with_reducible refine (hA _).mono ?_); rintro e w1 ⟨rfl, q1⟩; (replace kF := kF.below q1 kF.lt; replace kC := kC.below q1 kC.lt; replace kZ := kZ.below q1 kZ.lt; replace B0 := bthen B0 q1; have t_0 := kC.cell 2; have t_1 := kC.cell 3; simp at t_0 t_1; have f_2 := kF.frozen 2; have f_3 := kF.frozen 3; have f_4 := kF.frozen 4; have c_0 := kF.cell 0; have c_1 := kF.cell 1; have c_2 := kF.cell 2; have c_3 := kF.cell 3; have c_4 := kF.cell 4; have c_5 := kF.cell 5; simp at c_0 c_1 c_2 c_3 c_4 c_5)) | ((with_reducible refine (hB _).mono ?_); rintro e w2 ⟨rfl, q2⟩; (replace kF := kF.below q2 kF.lt; replace kC := kC.below q2 kC.lt; replace kZ := kZ.below q2 kZ.lt; replace B0 := bthen B0 q2; have t_0 := kC.cell 2; have t_1 := kC.cell 3; simp at t_0 t_1; have f_2 := kF.frozen 2; have f_3 := kF.frozen 3; have f_4 := kF.frozen 4; have c_0 := kF.cell 0; have c_1 := kF.cell 1; have c_2 := kF.cell 2; have c_3 := kF.cell 3; have c_4 := kF.cell 4; have c_5 := kF.cell 5; simp at c_0 c_1 c_2 c_3 c_4 c_5)) | (refine wpList_load_row rfl 39 (.tmp 2) rfl w.heap.size rfl 39 (stC ⟨m, ar, ho, la, lo, is⟩) (0, 0) _ kF Tryz.underlying39 rfl (infoR _) ?_) | (refine wpList_store_row rfl 39 (.tmp 4) (.tmp 28) rfl (w.heap.size + 1 + 1) (stC ⟨m, ar, ho, la, lo, is⟩) rfl rfl 39 _ kZ (infoR _) rfl (oneSt _) ?_))
      exact bodyPost_ret (results_two rfl _ _ (w.heap.size + 1 + 1) 39 (stC (⟨m, ar, ho, la, lo, is⟩ : St)) (0, 0) _ (.int .i64 eb) rfl rfl (kZ.row _) Tryz.underlying39 rfl (infoR (⟨m, ar, ho, la, lo, is⟩ : St))) rfl ⟨rfl, bel_row B0 _ (by omega) _⟩
  · rw [if_pos h1, if_neg h1]
    go_enter Tryz.func22, Tryz.ntmps22
    go_wp2_with fail
    generalize World.alloc (World.alloc (World.alloc w _) _) _ = W0 at *
    have r_0 := kC.cell 0
    have r_1 := kC.cell 1
    have r_2 := kC.cell 2
    have r_3 := kC.cell 3
    simp at r_0 r_1 r_2 r_3
    go_wp2_with (first | ((with_reducible refine (hA _).mono ?_); rintro e w1 ⟨rfl, q1⟩; (replace kF := kF.below q1 kF.lt; replace kC := kC.below q1 kC.lt; replace kZ := kZ.below q1 kZ.lt; replace B0 := bthen B0 q1; have t_0 := kC.cell 2; have t_1 := kC.cell 3; simp at t_0 t_1; have f_2 := kF.frozen 2; have f_3 := kF.frozen 3; have f_4 := kF.frozen 4; have c_0 := kF.cell 0; have c_1 := kF.cell 1; have c_2 := kF.cell 2; have c_3 := kF.cell 3; have c_4 := kF.cell 4; have c_5 := kF.cell 5; simp at c_0 c_1 c_2 c_3 c_4 c_5)) | (refine wpList_load_row rfl 39 (.tmp 2) rfl w.heap.size rfl 39 (stC ⟨m, ar, ho, la, lo, is⟩) (0, 0) _ kF Tryz.underlying39 rfl (infoR _) ?_) | (refine wpList_store_row rfl 39 (.tmp 4) (.tmp 18) rfl (w.heap.size + 1 + 1) (stC ⟨m, ar, ho, la, lo, is⟩) rfl rfl 39 _ kZ (infoR _) rfl (oneSt _) ?_))
    exact bodyPost_ret (results_two rfl _ _ (w.heap.size + 1 + 1) 39 (stC (⟨m, ar, ho, la, lo, is⟩ : St)) (0, 0) _ (.int .i64 ea) rfl rfl (kZ.row _) Tryz.underlying39 rfl (infoR (⟨m, ar, ho, la, lo, is⟩ : St))) rfl ⟨rfl, bel_row B0 _ (by omega) _⟩
end Go.Proofs.YtebkeocpojlepaaGreatDoor

/- dogwatchref16.Delta. -/
namespace Go.Proofs.YtebkeocpojlepaaGreatDoor
open Go.RowKit
set_option linter.unusedVariables false
set_option linter.unusedSimpArgs false

theorem iso_fin : ∀ i : Fin 16, ∀ n : Fin 4, bits .and .i64 (i.1 : Int) (bitI (n.1 : Int)) = (if hasI (i.1 : Int) (n.1 : Int) then bitI (n.1 : Int) else 0) ∧ bits .or .i64 (i.1 : Int) (bitI (n.1 : Int)) = setI (i.1 : Int) (n.1 : Int) ∧ bits .andNot .i64 (i.1 : Int) (bitI (n.1 : Int)) = offI (i.1 : Int) (n.1 : Int) := by decide +kernel
theorem iso_ops (i n : Int) (h0 : 0 ≤ i) (h1 : i < 16) (h2 : 0 ≤ n) (h3 : n ≤ 3) : bits .and .i64 i (bitI n) = (if hasI i n then bitI n else 0) ∧ bits .or .i64 i (bitI n) = setI i n ∧ bits .andNot .i64 i (bitI n) = offI i n := by
  have := iso_fin ⟨i.toNat, by omega⟩ ⟨n.toNat, by omega⟩
  simp only [show ((i.toNat : Nat) : Int) = i by omega, show ((n.toNat : Nat) : Int) = n by omega] at this
  exact this

/-- what Delta answers, over the pieces -/
def DPost (w : World) (S : St) (E : Int) (e : Ending) (w' : World) : Prop := e = .returned (.tuple #[stV S, .int .i64 E]) ∧ Below w.heap.size w w'

set_option maxRecDepth 100000 in
set_option maxHeartbeats 4000000 in
theorem rDelta1 (s : St) (hs : s.ok) (c : Cm) (hc : c.ok) (hk : c.kind = 1 ∨ c.kind = 4) (w : World) : Calls Tryz.prog 9 #[stV s, cmV c] w (DPost w (deltaS s c) (deltaE s c)) := by
  have hG := rgoes_any s hs c.n
  have hH := rhome_any s hs c hc
  rcases hk with h1 | h4
  · have e1 : deltaE s c = goesE s c.n := by unfold deltaE; rw [if_pos h1]
    have e2 : deltaS s c = if goesE s c.n = 0 then { s with mode := c.n } else s := by unfold deltaS deltaK; rw [e1, if_pos h1]
    rw [e1, e2]
    generalize (if goesE s c.n = 0 then { s with mode := c.n } else s) = R at *
    generalize goesE s c.n = E at *
    obtain ⟨m, ar, ho, la, lo, is⟩ := s
    obtain ⟨ck, cn, ca, co⟩ := c
    simp only at h1 hG
    subst h1
    clear hH hs hc e1 e2
    have kF := ((Blk.new w 39 (stC ⟨m, ar, ho, la, lo, is⟩)).alloc (.cells (cmC ⟨1, cn, ca, co⟩) 44)).alloc (.cells zStC 39)
    have kC := (Blk.new (w.alloc (.cells (stC ⟨m, ar, ho, la, lo, is⟩) 39)) 44 (cmC ⟨1, cn, ca, co⟩)).alloc (.cells zStC 39)
    have kZ := Blk.new ((w.alloc (.cells (stC ⟨m, ar, ho, la, lo, is⟩) 39)).alloc (.cells (cmC ⟨1, cn, ca, co⟩) 44)) 39 zStC
    simp only [World.size_alloc] at kC kZ
    have B0 : Below w.heap.size w (((w.alloc (.cells (stC ⟨m, ar, ho, la, lo, is⟩) 39)).alloc (.cells (cmC ⟨1, cn, ca, co⟩) 44)).alloc (.cells zStC 39)) := (((Below.refl _ w).alloc (Nat.le_refl _) _).alloc (by simp) _).alloc (by simp; omega) _
    go_enter Tryz.func9, Tryz.ntmps9
    go_wp2_with fail
    generalize World.alloc (World.alloc (World.alloc w _) _) _ = W0 at *
    have r_0 := kC.cell 0
    have r_1 := kC.cell 1
    have r_2 := kC.cell 2
    have r_3 := kC.cell 3
    simp at r_0 r_1 r_2 r_3
    have u_0 := kF.cell 0
    have u_1 := kF.cell 1
    have u_2 := kF.cell 2
    have u_3 := kF.cell 3
    have u_4 := kF.cell 4
    have u_5 := kF.cell 5
    simp at u_0 u_1 u_2 u_3 u_4 u_5
    have g0 := kF.frozen 0
    have g1 := kF.frozen 1
    have g5 := kF.frozen 5
    go_wp2_with (first | ((with_reducible refine (hG _).mono ?_); rintro e w1 ⟨rfl, q1⟩; (replace kF := kF.below q1 kF.lt; replace kC := kC.below q1 kC.lt; replace kZ := kZ.below q1 kZ.lt; replace B0 := bthen B0 q1; have c_0 := kF.cell 0; have c_1 := kF.cell 1; have c_2 := kF.cell 2; have c_3 := kF.cell 3; have c_4 := kF.cell 4; have c_5 := kF.cell 5; simp at c_0 c_1 c_2 c_3 c_4 c_5; have f_0 := kF.frozen 0; have f_1 := kF.frozen 1)) | (refine wpList_store_row rfl 39 (.tmp 4) (.tmp 15) rfl (w.heap.size + 1 + 1) (stC R) rfl rfl 39 _ kZ (infoR _) rfl (oneSt _) ?_))
    exact bodyPost_ret (results_two rfl _ _ (w.heap.size + 1 + 1) 39 (stC R) (0, 0) _ (.int .i64 E) rfl rfl (kZ.row _) Tryz.underlying39 rfl (infoR R)) rfl ⟨rfl, bel_row B0 _ (by omega) _⟩
  · have n1 : ¬ c.kind = 1 := by omega
    have n2 : ¬ c.kind = 2 := by omega
    have n3 : ¬ c.kind = 3 := by omega
    have e1 : deltaE s c = if fixE c.lat L90 ≠ 0 then fixE c.lat L90 else fixE c.lon L180 := by unfold deltaE; rw [if_neg n1, if_neg n2, if_neg n3, if_pos h4]
    have e2 : deltaS s c = if (if fixE c.lat L90 ≠ 0 then fixE c.lat L90 else fixE c.lon L180) = 0 then { s with home := true, lat := fixV c.lat L90, lon := fixV c.lon L180 } else s := by
      unfold deltaS deltaK; rw [e1, if_neg n1, if_neg n2, if_neg n3, if_pos h4]
    rw [e1, e2]
    generalize (if (if fixE c.lat L90 ≠ 0 then fixE c.lat L90 else fixE c.lon L180) = 0 then { s with home := true, lat := fixV c.lat L90, lon := fixV c.lon L180 } else s) = R at *
    generalize (if fixE c.lat L90 ≠ 0 then fixE c.lat L90 else fixE c.lon L180) = E at *
    obtain ⟨m, ar, ho, la, lo, is⟩ := s
    obtain ⟨ck, cn, ca, co⟩ := c
    simp only at h4 hH
    subst h4
    clear hG hs hc e1 e2 n1 n2 n3
    have kC4 := @infoC
    have kF := ((Blk.new w 39 (stC ⟨m, ar, ho, la, lo, is⟩)).alloc (.cells (cmC ⟨4, cn, ca, co⟩) 44)).alloc (.cells zStC 39)
    have kC := (Blk.new (w.alloc (.cells (stC ⟨m, ar, ho, la, lo, is⟩) 39)) 44 (cmC ⟨4, cn, ca, co⟩)).alloc (.cells zStC 39)
    have kZ := Blk.new ((w.alloc (.cells (stC ⟨m, ar, ho, la, lo, is⟩) 39)).alloc (.cells (cmC ⟨4, cn, ca, co⟩) 44)) 39 zStC
    simp only [World.size_alloc] at kC kZ
    have B0 : Below w.heap.size w (((w.alloc (.cells (stC ⟨m, ar, ho, la, lo, is⟩) 39)).alloc (.cells (cmC ⟨4, cn, ca, co⟩) 44)).alloc (.cells zStC 39)) := (((Below.refl _ w).alloc (Nat.le_refl _) _).alloc (by simp) _).alloc (by simp; omega) _
    go_enter Tryz.func9, Tryz.ntmps9
    go_wp2_with fail
    generalize World.alloc (World.alloc (World.alloc w _) _) _ = W0 at *
    have r_0 := kC.cell 0
    have r_1 := kC.cell 1
    have r_2 := kC.cell 2
    have r_3 := kC.cell 3
    simp at r_0 r_1 r_2 r_3
    have u_0 := kF.cell 0
    have u_1 := kF.cell 1
    have u_2 := kF.cell 2
    have u_3 := kF.cell 3
    have u_4 := kF.cell 4
    have u_5 := kF.cell 5
    simp at u_0 u_1 u_2 u_3 u_4 u_5
    have g0 := kF.frozen 0
    have g1 := kF.frozen 1
    have g5 := kF.frozen 5
    go_wp2_with (first | ((with_reducible refine (hH _).mono ?_); rintro e w1 ⟨rfl, q1⟩; (replace kF := kF.below q1 kF.lt; replace kC := kC.below q1 kC.lt; replace kZ := kZ.below q1 kZ.lt; replace B0 := bthen B0 q1; have c_0 := kF.cell 0; have c_1 := kF.cell 1; have c_2 := kF.cell 2; have c_3 := kF.cell 3; have c_4 := kF.cell 4; have c_5 := kF.cell 5; simp at c_0 c_1 c_2 c_3 c_4 c_5; have f_0 := kF.frozen 0; have f_1 := kF.frozen 1)) | (refine wpList_store_row rfl 39 (.tmp 4) (.tmp 52) rfl (w.heap.size + 1 + 1) (stC R) rfl rfl 39 _ kZ (infoR _) rfl (oneSt _) ?_))
    exact bodyPost_ret (results_two rfl _ _ (w.heap.size + 1 + 1) 39 (stC R) (0, 0) _ (.int .i64 E) rfl rfl (kZ.row _) Tryz.underlying39 rfl (infoR R)) rfl ⟨rfl, bel_row B0 _ (by omega) _⟩

set_option maxRecDepth 100000 in
set_option maxHeartbeats 4000000 in
theorem rDelta2 (s : St) (hs : s.ok) (c : Cm) (hc : c.ok) (hk : c.kind = 2) (w : World) : Calls Tryz.prog 9 #[stV s, cmV c] w (DPost w (deltaS s c) (deltaE s c)) := by
  have n1 : ¬ c.kind = 1 := by omega
  have hS := r14Sound s hs
  have e1 : deltaE s c = if s.armed then 21 else if soundI s.iso < 2 then 24 else 0 := by unfold deltaE; rw [if_neg n1, if_pos hk]
  have e2 : deltaS s c = if (if s.armed then 21 else if soundI s.iso < 2 then 24 else 0 : Int) = 0 then { s with armed := true, mode := 1 } else s := by unfold deltaS deltaK; rw [e1, if_neg n1, if_pos hk]
  rw [e1, e2]
  clear e1 e2 n1
  obtain ⟨m, ar, ho, la, lo, is⟩ := s
  obtain ⟨ck, cn, ca, co⟩ := c
  simp only at *
  subst hk
  clear hs hc
  have kF := ((Blk.new w 39 (stC ⟨m, ar, ho, la, lo, is⟩)).alloc (.cells (cmC ⟨2, cn, ca, co⟩) 44)).alloc (.cells zStC 39)
  have kC := (Blk.new (w.alloc (.cells (stC ⟨m, ar, ho, la, lo, is⟩) 39)) 44 (cmC ⟨2, cn, ca, co⟩)).alloc (.cells zStC 39)
  have kZ := Blk.new ((w.alloc (.cells (stC ⟨m, ar, ho, la, lo, is⟩) 39)).alloc (.cells (cmC ⟨2, cn, ca, co⟩) 44)) 39 zStC
  simp only [World.size_alloc] at kC kZ
  have B0 : Below w.heap.size w (((w.alloc (.cells (stC ⟨m, ar, ho, la, lo, is⟩) 39)).alloc (.cells (cmC ⟨2, cn, ca, co⟩) 44)).alloc (.cells zStC 39)) := (((Below.refl _ w).alloc (Nat.le_refl _) _).alloc (by simp) _).alloc (by simp; omega) _
  generalize soundI is = so at *
  cases ar
  case true =>
    simp only [if_true]
    rw [if_neg (by decide)]
    go_enter Tryz.func9, Tryz.ntmps9
    go_wp2
    exact bodyPost_ret (v := .tuple #[stV ⟨m, true, ho, la, lo, is⟩, .int .i64 21]) (by simp [results, Tryz.results9, go_sem]) rfl ⟨rfl, (((Below.refl _ w).alloc (Nat.le_refl _) _).alloc (by simp) _).alloc (by simp; omega) _⟩
  case false =>
    simp only [Bool.false_eq_true, if_false]
    by_cases h2 : so < 2
    · rw [if_pos h2, if_neg (by decide)]
      go_enter Tryz.func9, Tryz.ntmps9
      go_wp2_with fail
      generalize World.alloc (World.alloc (World.alloc w _) _) _ = W0 at *
      have r_0 := kC.cell 0
      have r_1 := kC.cell 1
      have r_2 := kC.cell 2
      have r_3 := kC.cell 3
      simp at r_0 r_1 r_2 r_3
      have u_0 := kF.cell 0
      have u_1 := kF.cell 1
      have u_2 := kF.cell 2
      have u_3 := kF.cell 3
      have u_4 := kF.cell 4
      have u_5 := kF.cell 5
      simp at u_0 u_1 u_2 u_3 u_4 u_5
      have g0 := kF.frozen 0
      have g1 := kF.frozen 1
      have g5 := kF.frozen 5
      go_wp2_with (first | ((with_reducible refine (hS _).mono ?_); rintro e w1 ⟨rfl, q1⟩; (replace kF := kF.below q1 kF.lt; replace kC := kC.below q1 kC.lt; replace kZ := kZ.below q1 kZ.lt; replace B0 := bthen B0 q1; have c_0 := kF.cell 0; have c_1 := kF.cell 1; have c_2 := kF.cell 2; have c_3 := kF.cell 3; have c_4 := kF.cell 4; have c_5 := kF.cell 5; simp at c_0 c_1 c_2 c_3 c_4 c_5; have f_0 := kF.frozen 0; have f_1 := kF.frozen 1)) | (refine wpList_load_row rfl 39 (.tmp 2) rfl w.heap.size rfl 39 (stC ⟨m, false, ho, la, lo, is⟩) (0, 0) _ kF Tryz.underlying39 rfl (infoR _) ?_) | (refine wpList_store_row rfl 39 (.tmp 4) (.tmp 25) rfl (w.heap.size + 1 + 1) (stC ⟨m, false, ho, la, lo, is⟩) rfl rfl 39 _ kZ (infoR _) rfl (oneSt _) ?_))
      exact bodyPost_ret (results_two rfl _ _ (w.heap.size + 1 + 1) 39 (stC (⟨m, false, ho, la, lo, is⟩ : St)) (0, 0) _ (.int .i64 24) rfl rfl (kZ.row _) Tryz.underlying39 rfl (infoR (⟨m, false, ho, la, lo, is⟩ : St))) rfl ⟨rfl, bel_row B0 _ (by omega) _⟩
    · rw [if_neg h2, if_pos rfl]
      go_enter Tryz.func9, Tryz.ntmps9
      go_wp2_with fail
      generalize World.alloc (World.alloc (World.alloc w _) _) _ = W0 at *
      have r_0 := kC.cell 0
      have r_1 := kC.cell 1
      have r_2 := kC.cell 2
      have r_3 := kC.cell 3
      simp at r_0 r_1 r_2 r_3
      have u_0 := kF.cell 0
      have u_1 := kF.cell 1
      have u_2 := kF.cell 2
      have u_3 := kF.cell 3
      have u_4 := kF.cell 4
      have u_5 := kF.cell 5
      simp at u_0 u_1 u_2 u_3 u_4 u_5
      have g0 := kF.frozen 0
      have g1 := kF.frozen 1
      have g5 := kF.frozen 5
      go_wp2_with (first | ((with_reducible refine (hS _).mono ?_); rintro e w1 ⟨rfl, q1⟩; (replace kF := kF.below q1 kF.lt; replace kC := kC.below q1 kC.lt; replace kZ := kZ.below q1 kZ.lt; replace B0 := bthen B0 q1; have c_0 := kF.cell 0; have c_1 := kF.cell 1; have c_2 := kF.cell 2; have c_3 := kF.cell 3; have c_4 := kF.cell 4; have c_5 := kF.cell 5; simp at c_0 c_1 c_2 c_3 c_4 c_5; have f_0 := kF.frozen 0; have f_1 := kF.frozen 1); (replace kC := kC.other ⟨w.heap.size, 1, none⟩ (by show w.heap.size + 1 ≠ w.heap.size; omega) (.bool true); replace kZ := kZ.other ⟨w.heap.size, 1, none⟩ (by show w.heap.size + 1 + 1 ≠ w.heap.size; omega) (.bool true); replace B0 := B0.setCell (p := ⟨w.heap.size, 1, none⟩) (Nat.le_refl _) (.bool true)); (replace kC := kC.other ⟨w.heap.size, 0, none⟩ (by show w.heap.size + 1 ≠ w.heap.size; omega) (.int .i64 1); replace kZ := kZ.other ⟨w.heap.size, 0, none⟩ (by show w.heap.size + 1 + 1 ≠ w.heap.size; omega) (.int .i64 1); replace B0 := B0.setCell (p := ⟨w.heap.size, 0, none⟩) (Nat.le_refl _) (.int .i64 1))) | (refine wpList_store_row rfl 39 (.tmp 4) (.tmp 28) rfl (w.heap.size + 1 + 1) (stC ⟨1, true, ho, la, lo, is⟩) rfl rfl 39 _ kZ (infoR _) rfl (oneSt _) ?_))
      exact bodyPost_ret (results_two rfl _ _ (w.heap.size + 1 + 1) 39 (stC (⟨1, true, ho, la, lo, is⟩ : St)) (0, 0) _ (.int .i64 0) rfl rfl (kZ.row _) Tryz.underlying39 rfl (infoR (⟨1, true, ho, la, lo, is⟩ : St))) rfl ⟨rfl, bel_row B0 _ (by omega) _⟩

set_option maxRecDepth 100000 in
set_option maxHeartbeats 4000000 in
theorem rDelta3 (s : St) (hs : s.ok) (c : Cm) (hc : c.ok) (hk : c.kind = 3) (w : World) : Calls Tryz.prog 9 #[stV s, cmV c] w (DPost w (deltaS s c) (deltaE s c)) := by
  have n1 : ¬ c.kind = 1 := by omega
  have n2 : ¬ c.kind = 2 := by omega
  have e1 : deltaE s c = if s.armed = false then 22 else if s.mode ≠ 1 ∧ s.mode ≠ 5 then 20 else 0 := by unfold deltaE; rw [if_neg n1, if_neg n2, if_pos hk]
  have e2 : deltaS s c = if (if s.armed = false then 22 else if s.mode ≠ 1 ∧ s.mode ≠ 5 then 20 else 0 : Int) = 0 then { s with armed := false, mode := 0 } else s := by unfold deltaS deltaK; rw [e1, if_neg n1, if_neg n2, if_pos hk]
  rw [e1, e2]
  clear e1 e2 n1 n2
  obtain ⟨m, ar, ho, la, lo, is⟩ := s
  obtain ⟨ck, cn, ca, co⟩ := c
  simp only at *
  subst hk
  clear hs hc
  have kF := ((Blk.new w 39 (stC ⟨m, ar, ho, la, lo, is⟩)).alloc (.cells (cmC ⟨3, cn, ca, co⟩) 44)).alloc (.cells zStC 39)
  have kC := (Blk.new (w.alloc (.cells (stC ⟨m, ar, ho, la, lo, is⟩) 39)) 44 (cmC ⟨3, cn, ca, co⟩)).alloc (.cells zStC 39)
  have kZ := Blk.new ((w.alloc (.cells (stC ⟨m, ar, ho, la, lo, is⟩) 39)).alloc (.cells (cmC ⟨3, cn, ca, co⟩) 44)) 39 zStC
  simp only [World.size_alloc] at kC kZ
  have B0 : Below w.heap.size w (((w.alloc (.cells (stC ⟨m, ar, ho, la, lo, is⟩) 39)).alloc (.cells (cmC ⟨3, cn, ca, co⟩) 44)).alloc (.cells zStC 39)) := (((Below.refl _ w).alloc (Nat.le_refl _) _).alloc (by simp) _).alloc (by simp; omega) _
  cases ar
  case false =>
    simp only [if_true]
    rw [if_neg (by decide)]
    go_enter Tryz.func9, Tryz.ntmps9
    go_wp2
    exact bodyPost_ret (v := .tuple #[stV ⟨m, false, ho, la, lo, is⟩, .int .i64 22]) (by simp [results, Tryz.results9, go_sem]) rfl ⟨rfl, (((Below.refl _ w).alloc (Nat.le_refl _) _).alloc (by simp) _).alloc (by simp; omega) _⟩
  case true =>
    simp only [Bool.true_eq_false, if_false]
    by_cases h1 : m = 1
    · subst h1
      simp only [ne_eq, not_true_eq_false, false_and, if_false, if_true]
      go_enter Tryz.func9, Tryz.ntmps9
      go_wp2
      exact bodyPost_ret (v := .tuple #[stV ⟨0, false, ho, la, lo, is⟩, .int .i64 0]) (by simp [results, Tryz.results9, go_sem]) rfl ⟨rfl, (((Below.refl _ w).alloc (Nat.le_refl _) _).alloc (by simp) _).alloc (by simp; omega) _⟩
    · by_cases h5 : m = 5
      · subst h5
        simp only [ne_eq, not_true_eq_false, and_false, if_false, if_true]
        go_enter Tryz.func9, Tryz.ntmps9
        go_wp2
        exact bodyPost_ret (v := .tuple #[stV ⟨0, false, ho, la, lo, is⟩, .int .i64 0]) (by simp [results, Tryz.results9, go_sem]) rfl ⟨rfl, (((Below.refl _ w).alloc (Nat.le_refl _) _).alloc (by simp) _).alloc (by simp; omega) _⟩
      · rw [if_pos (show m ≠ 1 ∧ m ≠ 5 from ⟨h1, h5⟩), if_neg (show ¬ (20 : Int) = 0 by decide)]
        have d1 : (m != 1) = true := by simpa using h1
        have d5 : (m != 5) = true := by simpa using h5
        go_enter Tryz.func9, Tryz.ntmps9
        go_wp2
        exact bodyPost_ret (v := .tuple #[stV ⟨m, true, ho, la, lo, is⟩, .int .i64 20]) (by simp [results, Tryz.results9, go_sem]) rfl ⟨rfl, (((Below.refl _ w).alloc (Nat.le_refl _) _).alloc (by simp) _).alloc (by simp; omega) _⟩

set_option maxRecDepth 100000 in
set_option maxHeartbeats 4000000 in
theorem rDelta0 (s : St) (hs : s.ok) (c : Cm) (hc : c.ok) (hk : ¬ (1 ≤ c.kind ∧ c.kind ≤ 6)) (w : World) : Calls Tryz.prog 9 #[stV s, cmV c] w (DPost w (deltaS s c) (deltaE s c)) := by
  have n1 : ¬ c.kind = 1 := by omega
  have n2 : ¬ c.kind = 2 := by omega
  have n3 : ¬ c.kind = 3 := by omega
  have n4 : ¬ c.kind = 4 := by omega
  have n5 : ¬ c.kind = 5 := by omega
  have n6 : ¬ c.kind = 6 := by omega
  have e1 : deltaE s c = 1 := by unfold deltaE; rw [if_neg n1, if_neg n2, if_neg n3, if_neg n4, if_neg n5, if_neg n6]
  have e2 : deltaS s c = s := by unfold deltaS; rw [e1, if_neg (by decide)]
  rw [e1, e2]
  clear e1 e2 hk
  obtain ⟨m, ar, ho, la, lo, is⟩ := s
  obtain ⟨ck, cn, ca, co⟩ := c
  simp only at *
  clear hs hc
  go_enter Tryz.func9, Tryz.ntmps9
  go_wp2
  exact bodyPost_ret (v := .tuple #[stV ⟨m, ar, ho, la, lo, is⟩, .int .i64 1]) (by simp [results, Tryz.results9, go_sem]) rfl ⟨rfl, (((Below.refl _ w).alloc (Nat.le_refl _) _).alloc (by simp) _).alloc (by simp; omega) _⟩

set_option maxRecDepth 100000 in
set_option maxHeartbeats 4000000 in
theorem rDelta6 (s : St) (hs : s.ok) (h16 : 0 ≤ s.iso ∧ s.iso < 16) (c : Cm) (hc : c.ok) (hk : c.kind = 6) (w : World) : Calls Tryz.prog 9 #[stV s, cmV c] w (DPost w (deltaS s c) (deltaE s c)) := by
  have n1 : ¬ c.kind = 1 := by omega
  have n2 : ¬ c.kind = 2 := by omega
  have n3 : ¬ c.kind = 3 := by omega
  have n4 : ¬ c.kind = 4 := by omega
  have n5 : ¬ c.kind = 5 := by omega
  have e1 : deltaE s c = if c.n < 0 ∨ 3 < c.n then 1 else 0 := by unfold deltaE; rw [if_neg n1, if_neg n2, if_neg n3, if_neg n4, if_neg n5, if_pos hk]
  have e2 : deltaS s c = if (if c.n < 0 ∨ 3 < c.n then 1 else 0 : Int) = 0 then { s with iso := offI s.iso c.n } else s := by unfold deltaS deltaK; rw [e1, if_neg n1, if_neg n2, if_neg n3, if_neg n4, if_neg n5, if_pos hk]
  rw [e1, e2]
  clear e1 e2 n1 n2 n3 n4 n5
  by_cases hn : c.n < 0 ∨ 3 < c.n
  · rw [if_pos hn, if_neg (show ¬ (1 : Int) = 0 by decide)]
    obtain ⟨m, ar, ho, la, lo, is⟩ := s
    obtain ⟨ck, cn, ca, co⟩ := c
    simp only at *
    subst hk
    clear hs hc
    rcases hn with hn | hn
    ·
      go_enter Tryz.func9, Tryz.ntmps9
      go_wp2
      exact bodyPost_ret (v := .tuple #[stV ⟨m, ar, ho, la, lo, is⟩, .int .i64 1]) (by simp [results, Tryz.results9, go_sem]) rfl ⟨rfl, (((Below.refl _ w).alloc (Nat.le_refl _) _).alloc (by simp) _).alloc (by simp; omega) _⟩
    · have h2 : ¬ cn < 0 := by omega
      go_enter Tryz.func9, Tryz.ntmps9
      go_wp2
      exact bodyPost_ret (v := .tuple #[stV ⟨m, ar, ho, la, lo, is⟩, .int .i64 1]) (by simp [results, Tryz.results9, go_sem]) rfl ⟨rfl, (((Below.refl _ w).alloc (Nat.le_refl _) _).alloc (by simp) _).alloc (by simp; omega) _⟩
  · rw [if_neg hn, if_pos rfl]
    have hI := iso_ops s.iso c.n h16.1 h16.2 (by omega) (by omega)
    obtain ⟨m, ar, ho, la, lo, is⟩ := s
    obtain ⟨ck, cn, ca, co⟩ := c
    simp only at *
    subst hk
    clear hs hc
    obtain rfl | rfl | rfl | rfl : cn = 0 ∨ cn = 1 ∨ cn = 2 ∨ cn = 3 := by omega
    ·
      have q1 : bits .andNot .i64 is 1 = offI is 0 := hI.2.2
      clear hI
      go_enter Tryz.func9, Tryz.ntmps9
      go_wp2
      exact bodyPost_ret (v := .tuple #[stV ⟨m, ar, ho, la, lo, offI is 0⟩, .int .i64 0]) (by simp [results, Tryz.results9, go_sem]) rfl ⟨rfl, (((Below.refl _ w).alloc (Nat.le_refl _) _).alloc (by simp) _).alloc (by simp; omega) _⟩
    ·
      have q1 : bits .andNot .i64 is 2 = offI is 1 := hI.2.2
      clear hI
      go_enter Tryz.func9, Tryz.ntmps9
      go_wp2
      exact bodyPost_ret (v := .tuple #[stV ⟨m, ar, ho, la, lo, offI is 1⟩, .int .i64 0]) (by simp [results, Tryz.results9, go_sem]) rfl ⟨rfl, (((Below.refl _ w).alloc (Nat.le_refl _) _).alloc (by simp) _).alloc (by simp; omega) _⟩
    ·
      have q1 : bits .andNot .i64 is 4 = offI is 2 := hI.2.2
      clear hI
      go_enter Tryz.func9, Tryz.ntmps9
      go_wp2
      exact bodyPost_ret (v := .tuple #[stV ⟨m, ar, ho, la, lo, offI is 2⟩, .int .i64 0]) (by simp [results, Tryz.results9, go_sem]) rfl ⟨rfl, (((Below.refl _ w).alloc (Nat.le_refl _) _).alloc (by simp) _).alloc (by simp; omega) _⟩
    ·
      have q1 : bits .andNot .i64 is 8 = offI is 3 := hI.2.2
      clear hI
      go_enter Tryz.func9, Tryz.ntmps9
      go_wp2
      exact bodyPost_ret (v := .tuple #[stV ⟨m, ar, ho, la, lo, offI is 3⟩, .int .i64 0]) (by simp [results, Tryz.results9, go_sem]) rfl ⟨rfl, (((Below.refl _ w).alloc (Nat.le_refl _) _).alloc (by simp) _).alloc (by simp; omega) _⟩
end Go.Proofs.YtebkeocpojlepaaGreatDoor

/- state.Pack. -/
namespace Go.Proofs.YtebkeocpojlepaaGreatDoor
open Go.RowKit
set_option linter.unusedVariables false
set_option linter.unusedSimpArgs false

theorem or_add (a x m : Nat) (hx : x < 2 ^ m) (h : a * 2 ^ m + x < 18446744073709551616) : bits .or .u64 ((a * 2 ^ m : Nat) : Int) (x : Int) = ((a * 2 ^ m + x : Nat) : Int) := by
  show IntKind.u64.wrap ((BitVec.ofInt 64 ((a * 2 ^ m : Nat) : Int) ||| BitVec.ofInt 64 (x : Int)).toNat : Int) = _
  rw [BitVec.toNat_or, BitVec.toNat_ofInt, BitVec.toNat_ofInt]
  rw [show ((x : Int) % ((2 ^ 64 : Nat) : Int)).toNat = x by omega, show (((a * 2 ^ m : Nat) : Int) % ((2 ^ 64 : Nat) : Int)).toNat = a * 2 ^ m by omega]
  rw [show a * 2 ^ m ||| x = a * 2 ^ m + x by rw [← Nat.shiftLeft_eq, Nat.shiftLeft_add_eq_or_of_lt hx]]
  show ((a * 2 ^ m + x : Nat) : Int) % 18446744073709551616 = _
  omega

/-- the first byte -/
def fstN (s : St) : Nat := s.mode.toNat + (if s.armed then 8 else 0) + (if s.home then 16 else 0)
theorem fst_or : ∀ m : Fin 8, ∀ a h : Bool, bits .or .i64 (bits .or .i64 (m.1 : Int) (if a then 8 else 0)) (if h then 16 else 0) = ((m.1 + (if a then 8 else 0) + (if h then 16 else 0) : Nat) : Int) := by decide +kernel
def lowN (i : Int) : Nat := (i % 16777216).toNat
/-- what the k-th field puts in -/
def pkX (s : St) : Nat → Int
  | 0 => fstN s
  | 1 => s.iso
  | 2 => s.lat
  | _ => s.lon
def pkW : Nat → Nat
  | 0 => 1
  | 1 => 1
  | _ => 3
/-- the bytes so far -/
def pkA (s : St) : Nat → Nat
  | 0 => 0
  | k + 1 => pkA s k * 2 ^ (8 * pkW k) + ((pkX s k) % ((2 ^ (8 * pkW k) : Nat) : Int)).toNat
def packN (s : St) : Nat := if legalB s then pkA s 4 else 0

set_option maxRecDepth 100000 in
theorem pix0 (a b c d : Int) (w : World) : (Instr.index 131 (.agg #[.int .i64 a, .int .i64 1, .int .i64 b, .int .i64 1, .int .i64 c, .int .i64 3, .int .i64 d, .int .i64 3]) (.int .i64 0)).run Tryz.prog w = .ok (.agg #[.int .i64 a, .int .i64 1]) w := by kernel_rfl
set_option maxRecDepth 100000 in
theorem pix1 (a b c d : Int) (w : World) : (Instr.index 131 (.agg #[.int .i64 a, .int .i64 1, .int .i64 b, .int .i64 1, .int .i64 c, .int .i64 3, .int .i64 d, .int .i64 3]) (.int .i64 1)).run Tryz.prog w = .ok (.agg #[.int .i64 b, .int .i64 1]) w := by kernel_rfl
set_option maxRecDepth 100000 in
theorem pix2 (a b c d : Int) (w : World) : (Instr.index 131 (.agg #[.int .i64 a, .int .i64 1, .int .i64 b, .int .i64 1, .int .i64 c, .int .i64 3, .int .i64 d, .int .i64 3]) (.int .i64 2)).run Tryz.prog w = .ok (.agg #[.int .i64 c, .int .i64 3]) w := by kernel_rfl
set_option maxRecDepth 100000 in
theorem pix3 (a b c d : Int) (w : World) : (Instr.index 131 (.agg #[.int .i64 a, .int .i64 1, .int .i64 b, .int .i64 1, .int .i64 c, .int .i64 3, .int .i64 d, .int .i64 3]) (.int .i64 3)).run Tryz.prog w = .ok (.agg #[.int .i64 d, .int .i64 3]) w := by kernel_rfl
set_option maxHeartbeats 4000000 in
set_option maxRecDepth 100000 in
theorem Pack_any (s : St) (hs : s.ok) (w : World) : Calls Tryz.prog 42 #[stV s] w fun e w' => e = .returned (.int .u64 (packN s : Int)) ∧ Below w.heap.size w w' := by
  have hL := Legal_any s hs
  have hP : packN s = if legalB s then pkA s 4 else 0 := rfl
  have k0 := Blk.new w 32 (stC s)
  have B0 : Below w.heap.size w (w.alloc (.cells (stC s) 32)) := (Below.refl _ w).alloc (Nat.le_refl _) _
  generalize packN s = RP at *
  cases hl : legalB s
  · rw [hl] at hL hP
    simp only [Bool.false_eq_true, if_false] at hP
    subst hP
    obtain ⟨m, ar, ho, la, lo, is⟩ := s
    try simp only at *
    go_enter Tryz.func42, Tryz.ntmps42
    go_wp2_with (with_reducible refine (hL _).mono ?_; rintro e w1 ⟨rfl, q1⟩)
    go_ret
    exact ⟨rfl, bthen B0 q1⟩
  · rw [hl] at hL hP
    simp only [if_true] at hP
    have hw1 := when_any s.armed 8
    have hw2 := when_any s.home 16
    have hl2 := hl
    unfold legalB at hl2
    simp only [Bool.and_eq_true, decide_eq_true_eq] at hl2
    obtain ⟨m', hm⟩ : ∃ m : Fin 8, s.mode = (m.1 : Int) := ⟨⟨s.mode.toNat, by omega⟩, by simp; omega⟩
    have hfo := fst_or m' s.armed s.home
    have hfn : fstN s = m'.1 + (if s.armed then 8 else 0) + (if s.home then 16 else 0) := by unfold fstN; rw [hm]; simp
    rw [← hfn, ← hm] at hfo
    have hF : fstN s < 256 := by rw [hfn]; have := m'.2; split <;> split <;> omega
    clear hm hfn
    have hA0 : pkA s 0 = 0 := rfl
    have hA1 : pkA s 1 = pkA s 0 * 256 + ((fstN s : Int) % 256).toNat := rfl
    have hA2 : pkA s 2 = pkA s 1 * 256 + (s.iso % 256).toNat := rfl
    have hA3 : pkA s 3 = pkA s 2 * 16777216 + (s.lat % 16777216).toNat := rfl
    have hA4 : pkA s 4 = pkA s 3 * 16777216 + (s.lon % 16777216).toNat := rfl
    generalize fstN s = F at *
    generalize pkA s = A at *
    have l1 : A 1 < 256 := by omega
    have l2 : A 2 < 65536 := by omega
    have l3 : A 3 < 1099511627776 := by omega
    have l0 : A 0 < 256 := by omega
    have HA0 := Lib.hid hA0
    have HA1 := Lib.hid hA1
    have HA2 := Lib.hid hA2
    have HA3 := Lib.hid hA3
    have HA4 := Lib.hid hA4
    clear hA0 hA1 hA2 hA3 hA4
    obtain ⟨m, ar, ho, la, lo, is⟩ := s
    try simp only at *
    generalize (if ar then (8 : Int) else 0) = A8 at *
    generalize (if ho then (16 : Int) else 0) = H16 at *
    go_enter Tryz.func42, Tryz.ntmps42
    go_wp2_with (with_reducible refine (hL _).mono ?_; rintro e w1 ⟨rfl, q1⟩; have k1 := k0.below q1 k0.lt; have B1 := bthen B0 q1; clear k0 B0 q1)
    have hc0 : ∀ n : CalmW w1.heap.size w1, n.val.cell? ⟨w.heap.size, 0, none⟩ = some (.int .i64 m) := fun n => (k1.below n.below k1.lt).cell 0
    have hc1 : ∀ n : CalmW w1.heap.size w1, n.val.cell? ⟨w.heap.size, 1, none⟩ = some (.bool ar) := fun n => (k1.below n.below k1.lt).cell 1
    have hc2 : ∀ n : CalmW w1.heap.size w1, n.val.cell? ⟨w.heap.size, 2, none⟩ = some (.bool ho) := fun n => (k1.below n.below k1.lt).cell 2
    have hc3 : ∀ n : CalmW w1.heap.size w1, n.val.cell? ⟨w.heap.size, 3, none⟩ = some (.int .i64 la) := fun n => (k1.below n.below k1.lt).cell 3
    have hc4 : ∀ n : CalmW w1.heap.size w1, n.val.cell? ⟨w.heap.size, 4, none⟩ = some (.int .i64 lo) := fun n => (k1.below n.below k1.lt).cell 4
    have hc5 : ∀ n : CalmW w1.heap.size w1, n.val.cell? ⟨w.heap.size, 5, none⟩ = some (.int .i64 is) := fun n => (k1.below n.below k1.lt).cell 5
    have hlt := k1.lt
    (refine wp_region_calm (w1.heap.size) (by kernel_rfl) (by kernel_rfl) ?_; (repeat (go_big_quiet_step ((first | (with_reducible refine calm_same (hw1 _)) | (with_reducible refine calm_same (hw2 _)))))); refine wpQuiet_nil ?_; intro W2 hw'; obtain ⟨⟨_, hW2⟩, hw''⟩ := hw'; subst hw'')
    clear hc0 hc1 hc2 hc3 hc4 hc5 hw1 hw2 hfo
    have B2 := bthen B1 hW2
    clear B1 hW2 k1 hlt
    go_wp2_with fail
    go_loopw [2, 29] (fun v i wr => ∃ k : Nat, k ≤ 4 ∧ i = .int .i64 k ∧ v = .int .u64 ((A k : Nat) : Int) ∧ Below w.heap.size w wr) (fun _ i _ => 4 - (intOf i).toNat)
    case atStart => exact ⟨0, by omega, rfl, by rw [HA0.out]; rfl, B2⟩
    case round =>
      obtain ⟨k, hk, rfl, rfl, hbr⟩ := hrel
      by_cases hlt4 : k < 4
      · obtain rfl | rfl | rfl | rfl : k = 0 ∨ k = 1 ∨ k = 2 ∨ k = 3 := by omega
        ·
          obtain ⟨n, hn, hn1⟩ : ∃ n : Nat, IntKind.u64.wrap ((F : Int)) = (n : Int) ∧ n < 18446744073709551616 := ⟨(((F : Int)) % 18446744073709551616).toNat, by show ((F : Int)) % 18446744073709551616 = _; omega, by omega⟩
          have hpu := Put_any n 1 hn1 (by decide)
          have hge := Get_any (putB n 1) (by rw [putB_size]; decide)
          have hgn : getN (putB n 1) = n % 256 := getL_putL n 1
          rw [hgn] at hge
          have hsh : IntKind.u64.wrap ((A 0 : Int) * 256) = ((A 0 * 256 : Nat) : Int) := by show ((A 0 : Int) * 256) % 18446744073709551616 = _; omega
          have hor : bits .or .u64 ((A 0 * 256 : Nat) : Int) ((n % 256 : Nat) : Int) = ((A 1 : Nat) : Int) := by
            rw [HA1.out]
            have e : (((F : Int)) % 256).toNat = n % 256 := by have : ((F : Int)) % 18446744073709551616 = (n : Int) := hn; omega
            rw [e]
            exact or_add (A 0) (n % 256) (8 * 1) (Nat.mod_lt _ (by decide)) (by have := Nat.mod_lt n (show 0 < 256 by decide); simp only [show (2 ^ (8 * 1) : Nat) = 256 from rfl]; omega)
          have kb := Blk.new wr 130 #[.int .i64 ((F : Int)), .int .i64 1]
          have hbr2 : Below w.heap.size w (wr.alloc (.cells #[.int .i64 ((F : Int)), .int .i64 1] 130)) := hbr.alloc (hbr.size) _
          have hix := pix0 (F : Int) is la lo
          generalize putB n 1 = PB at *
          generalize n % 256 = y at *
          obtain ⟨z, hz⟩ : ∃ z, z = A 0 * 256 := ⟨_, rfl⟩
          rw [← hz] at hsh hor
          clear hz
          go_wp2_with fail
          generalize World.alloc wr _ = W3 at *
          have hd0 : ∀ m : CalmW W3.heap.size W3, m.val.cell? ⟨wr.heap.size, 0, none⟩ = some (.int .i64 ((F : Int))) := fun m => (kb.below m.below kb.lt).cell 0
          have hd1 : ∀ m : CalmW W3.heap.size W3, m.val.cell? ⟨wr.heap.size, 1, none⟩ = some (.int .i64 1) := fun m => (kb.below m.below kb.lt).cell 1
          have hlt := kb.lt
          (refine wp_region_calm (W3.heap.size) (by kernel_rfl) (by kernel_rfl) ?_; (repeat (go_big_quiet_step ((first | (with_reducible refine calm_of (Nat.le_refl _) (hpu _)) | (with_reducible refine calm_same (hge _)))))); refine wpQuiet_nil ?_; intro W4 hw'; obtain ⟨⟨_, hW4⟩, hw''⟩ := hw'; subst hw'')
          have B4 := bthen hbr2 hW4
          clear hbr2 hW4 kb hlt hd0 hd1 hix hpu hge hL
          go_wp2_with fail
          go_roundw
          case rel => exact ⟨1, by omega, rfl, rfl, B4⟩
          case measure => simp [intOf]
        ·
          obtain ⟨n, hn, hn1⟩ : ∃ n : Nat, IntKind.u64.wrap (is) = (n : Int) ∧ n < 18446744073709551616 := ⟨((is) % 18446744073709551616).toNat, by show (is) % 18446744073709551616 = _; omega, by omega⟩
          have hpu := Put_any n 1 hn1 (by decide)
          have hge := Get_any (putB n 1) (by rw [putB_size]; decide)
          have hgn : getN (putB n 1) = n % 256 := getL_putL n 1
          rw [hgn] at hge
          have hsh : IntKind.u64.wrap ((A 1 : Int) * 256) = ((A 1 * 256 : Nat) : Int) := by show ((A 1 : Int) * 256) % 18446744073709551616 = _; omega
          have hor : bits .or .u64 ((A 1 * 256 : Nat) : Int) ((n % 256 : Nat) : Int) = ((A 2 : Nat) : Int) := by
            rw [HA2.out]
            have e : ((is) % 256).toNat = n % 256 := by have : (is) % 18446744073709551616 = (n : Int) := hn; omega
            rw [e]
            exact or_add (A 1) (n % 256) (8 * 1) (Nat.mod_lt _ (by decide)) (by have := Nat.mod_lt n (show 0 < 256 by decide); simp only [show (2 ^ (8 * 1) : Nat) = 256 from rfl]; omega)
          have kb := Blk.new wr 130 #[.int .i64 (is), .int .i64 1]
          have hbr2 : Below w.heap.size w (wr.alloc (.cells #[.int .i64 (is), .int .i64 1] 130)) := hbr.alloc (hbr.size) _
          have hix := pix1 (F : Int) is la lo
          generalize putB n 1 = PB at *
          generalize n % 256 = y at *
          obtain ⟨z, hz⟩ : ∃ z, z = A 1 * 256 := ⟨_, rfl⟩
          rw [← hz] at hsh hor
          clear hz
          go_wp2_with fail
          generalize World.alloc wr _ = W3 at *
          have hd0 : ∀ m : CalmW W3.heap.size W3, m.val.cell? ⟨wr.heap.size, 0, none⟩ = some (.int .i64 (is)) := fun m => (kb.below m.below kb.lt).cell 0
          have hd1 : ∀ m : CalmW W3.heap.size W3, m.val.cell? ⟨wr.heap.size, 1, none⟩ = some (.int .i64 1) := fun m => (kb.below m.below kb.lt).cell 1
          have hlt := kb.lt
          (refine wp_region_calm (W3.heap.size) (by kernel_rfl) (by kernel_rfl) ?_; (repeat (go_big_quiet_step ((first | (with_reducible refine calm_of (Nat.le_refl _) (hpu _)) | (with_reducible refine calm_same (hge _)))))); refine wpQuiet_nil ?_; intro W4 hw'; obtain ⟨⟨_, hW4⟩, hw''⟩ := hw'; subst hw'')
          have B4 := bthen hbr2 hW4
          clear hbr2 hW4 kb hlt hd0 hd1 hix hpu hge hL
          go_wp2_with fail
          go_roundw
          case rel => exact ⟨2, by omega, rfl, rfl, B4⟩
          case measure => simp [intOf]
        ·
          obtain ⟨n, hn, hn1⟩ : ∃ n : Nat, IntKind.u64.wrap (la) = (n : Int) ∧ n < 18446744073709551616 := ⟨((la) % 18446744073709551616).toNat, by show (la) % 18446744073709551616 = _; omega, by omega⟩
          have hpu := Put_any n 3 hn1 (by decide)
          have hge := Get_any (putB n 3) (by rw [putB_size]; decide)
          have hgn : getN (putB n 3) = n % 16777216 := getL_putL n 3
          rw [hgn] at hge
          have hsh : IntKind.u64.wrap ((A 2 : Int) * 16777216) = ((A 2 * 16777216 : Nat) : Int) := by show ((A 2 : Int) * 16777216) % 18446744073709551616 = _; omega
          have hor : bits .or .u64 ((A 2 * 16777216 : Nat) : Int) ((n % 16777216 : Nat) : Int) = ((A 3 : Nat) : Int) := by
            rw [HA3.out]
            have e : ((la) % 16777216).toNat = n % 16777216 := by have : (la) % 18446744073709551616 = (n : Int) := hn; omega
            rw [e]
            exact or_add (A 2) (n % 16777216) (8 * 3) (Nat.mod_lt _ (by decide)) (by have := Nat.mod_lt n (show 0 < 16777216 by decide); simp only [show (2 ^ (8 * 3) : Nat) = 16777216 from rfl]; omega)
          have kb := Blk.new wr 130 #[.int .i64 (la), .int .i64 3]
          have hbr2 : Below w.heap.size w (wr.alloc (.cells #[.int .i64 (la), .int .i64 3] 130)) := hbr.alloc (hbr.size) _
          have hix := pix2 (F : Int) is la lo
          generalize putB n 3 = PB at *
          generalize n % 16777216 = y at *
          obtain ⟨z, hz⟩ : ∃ z, z = A 2 * 16777216 := ⟨_, rfl⟩
          rw [← hz] at hsh hor
          clear hz
          go_wp2_with fail
          generalize World.alloc wr _ = W3 at *
          have hd0 : ∀ m : CalmW W3.heap.size W3, m.val.cell? ⟨wr.heap.size, 0, none⟩ = some (.int .i64 (la)) := fun m => (kb.below m.below kb.lt).cell 0
          have hd1 : ∀ m : CalmW W3.heap.size W3, m.val.cell? ⟨wr.heap.size, 1, none⟩ = some (.int .i64 3) := fun m => (kb.below m.below kb.lt).cell 1
          have hlt := kb.lt
          (refine wp_region_calm (W3.heap.size) (by kernel_rfl) (by kernel_rfl) ?_; (repeat (go_big_quiet_step ((first | (with_reducible refine calm_of (Nat.le_refl _) (hpu _)) | (with_reducible refine calm_same (hge _)))))); refine wpQuiet_nil ?_; intro W4 hw'; obtain ⟨⟨_, hW4⟩, hw''⟩ := hw'; subst hw'')
          have B4 := bthen hbr2 hW4
          clear hbr2 hW4 kb hlt hd0 hd1 hix hpu hge hL
          go_wp2_with fail
          go_roundw
          case rel => exact ⟨3, by omega, rfl, rfl, B4⟩
          case measure => simp [intOf]
        ·
          obtain ⟨n, hn, hn1⟩ : ∃ n : Nat, IntKind.u64.wrap (lo) = (n : Int) ∧ n < 18446744073709551616 := ⟨((lo) % 18446744073709551616).toNat, by show (lo) % 18446744073709551616 = _; omega, by omega⟩
          have hpu := Put_any n 3 hn1 (by decide)
          have hge := Get_any (putB n 3) (by rw [putB_size]; decide)
          have hgn : getN (putB n 3) = n % 16777216 := getL_putL n 3
          rw [hgn] at hge
          have hsh : IntKind.u64.wrap ((A 3 : Int) * 16777216) = ((A 3 * 16777216 : Nat) : Int) := by show ((A 3 : Int) * 16777216) % 18446744073709551616 = _; omega
          have hor : bits .or .u64 ((A 3 * 16777216 : Nat) : Int) ((n % 16777216 : Nat) : Int) = ((A 4 : Nat) : Int) := by
            rw [HA4.out]
            have e : ((lo) % 16777216).toNat = n % 16777216 := by have : (lo) % 18446744073709551616 = (n : Int) := hn; omega
            rw [e]
            exact or_add (A 3) (n % 16777216) (8 * 3) (Nat.mod_lt _ (by decide)) (by have := Nat.mod_lt n (show 0 < 16777216 by decide); simp only [show (2 ^ (8 * 3) : Nat) = 16777216 from rfl]; omega)
          have kb := Blk.new wr 130 #[.int .i64 (lo), .int .i64 3]
          have hbr2 : Below w.heap.size w (wr.alloc (.cells #[.int .i64 (lo), .int .i64 3] 130)) := hbr.alloc (hbr.size) _
          have hix := pix3 (F : Int) is la lo
          generalize putB n 3 = PB at *
          generalize n % 16777216 = y at *
          obtain ⟨z, hz⟩ : ∃ z, z = A 3 * 16777216 := ⟨_, rfl⟩
          rw [← hz] at hsh hor
          clear hz
          go_wp2_with fail
          generalize World.alloc wr _ = W3 at *
          have hd0 : ∀ m : CalmW W3.heap.size W3, m.val.cell? ⟨wr.heap.size, 0, none⟩ = some (.int .i64 (lo)) := fun m => (kb.below m.below kb.lt).cell 0
          have hd1 : ∀ m : CalmW W3.heap.size W3, m.val.cell? ⟨wr.heap.size, 1, none⟩ = some (.int .i64 3) := fun m => (kb.below m.below kb.lt).cell 1
          have hlt := kb.lt
          (refine wp_region_calm (W3.heap.size) (by kernel_rfl) (by kernel_rfl) ?_; (repeat (go_big_quiet_step ((first | (with_reducible refine calm_of (Nat.le_refl _) (hpu _)) | (with_reducible refine calm_same (hge _)))))); refine wpQuiet_nil ?_; intro W4 hw'; obtain ⟨⟨_, hW4⟩, hw''⟩ := hw'; subst hw'')
          have B4 := bthen hbr2 hW4
          clear hbr2 hW4 kb hlt hd0 hd1 hix hpu hge hL
          go_wp2_with fail
          go_roundw
          case rel => exact ⟨4, by omega, rfl, rfl, B4⟩
          case measure => simp [intOf]
      · have hk4 : k = 4 := by omega
        subst hk4
        subst hP
        go_wp2
        go_ret
        exact ⟨rfl, hbr⟩
end Go.Proofs.YtebkeocpojlepaaGreatDoor

/- dogwatchref16.Fits; the top's its, whole, air; dogwatchref05.Size. -/
namespace Go.Proofs.YtebkeocpojlepaaGreatDoor
open Go.RowKit
set_option linter.unusedVariables false
set_option linter.unusedSimpArgs false

def fitsV (ar F ho H : Bool) (N S : Int) : Bool := (ar == F) && (ho || !H) && decide (N ≤ S)
def fitsB (s : St) : Bool := fitsV s.armed (flyB s.mode) s.home (homeB s.mode) (needsI s.mode) (soundI s.iso)

set_option maxHeartbeats 4000000 in
theorem Fits_any (s : St) (hs : s.ok) (w : World) : Calls Tryz.prog 16 #[stV s] w fun e w' => e = .returned (.bool (fitsB s)) ∧ Below w.heap.size w w' := by
  have h1 := r15Flying s.mode
  have h2 := r15Home s.mode
  have h3 := r14Sound s hs
  have h4 := r15Needs s.mode
  obtain ⟨R, hR⟩ : ∃ R, R = fitsB s := ⟨_, rfl⟩
  rw [← hR]
  unfold fitsB at hR
  have k0 := Blk.new w 39 (stC s)
  have B0 : Below w.heap.size w (w.alloc (.cells (stC s) 39)) := (Below.refl _ w).alloc (Nat.le_refl _) _
  generalize flyB s.mode = F at *
  generalize homeB s.mode = H at *
  generalize needsI s.mode = N at *
  generalize soundI s.iso = S at *
  obtain ⟨m, ar, ho, la, lo, is⟩ := s
  simp only at *
  have dN : decide (N ≤ S) = true ∨ decide (N ≤ S) = false := by cases decide (N ≤ S) <;> simp
  have HR := Lib.hid hR
  clear hR
  rcases dN with dN | dN
  all_goals
    cases F
    all_goals
      cases ar
      all_goals
        cases ho
        all_goals
          cases H
          all_goals
            go_enter Tryz.func16, Tryz.ntmps16
            go_wp2_with fail
            generalize World.alloc w _ = W0 at *
            have r0 : ∀ n : CalmW W0.heap.size W0, n.val.cell? ⟨w.heap.size, 0, none⟩ = some (.int .i64 m) := fun n => ((k0.below n.below k0.lt).cell 0).trans (by simp)
            have r1 : ∀ n : CalmW W0.heap.size W0, n.val.cell? ⟨w.heap.size, 1, none⟩ = some (.bool _) := fun n => ((k0.below n.below k0.lt).cell 1).trans rfl
            have r2 : ∀ n : CalmW W0.heap.size W0, n.val.cell? ⟨w.heap.size, 2, none⟩ = some (.bool _) := fun n => ((k0.below n.below k0.lt).cell 2).trans rfl
            have r3 : ∀ n : CalmW W0.heap.size W0, n.val.cell? ⟨w.heap.size, 3, none⟩ = some (.int .i64 la) := fun n => ((k0.below n.below k0.lt).cell 3).trans (by simp)
            have r4 : ∀ n : CalmW W0.heap.size W0, n.val.cell? ⟨w.heap.size, 4, none⟩ = some (.int .i64 lo) := fun n => ((k0.below n.below k0.lt).cell 4).trans (by simp)
            have r5 : ∀ n : CalmW W0.heap.size W0, n.val.cell? ⟨w.heap.size, 5, none⟩ = some (.int .i64 is) := fun n => ((k0.below n.below k0.lt).cell 5).trans (by simp)
            refine wp_region_calm W0.heap.size (by kernel_rfl) (by kernel_rfl) ?_
            repeat (go_big_quiet_step (first | (with_reducible refine calm_same (h1 _)) | (with_reducible refine calm_same (h2 _)) | (with_reducible refine calm_of (Nat.le_refl _) (h3 _)) | (with_reducible refine calm_same (h4 _))))
            refine wpQuiet_nil ?_
            rintro W1 ⟨⟨W2, b2⟩, rfl⟩
            go_wp2
            go_ret
            exact ⟨ret_bool (by rw [HR.out]; unfold fitsV; rw [dN]; rfl), bthen B0 b2⟩

theorem its_any (s : St) (w : World) : Calls Tryz.prog 10 #[stV s] w fun e w' => e = .returned (stV s) ∧ Below w.heap.size w w' := by
  go_enter Tryz.func10, Tryz.ntmps10
  go_wp2
  exact bodyPost_ret (v := stV s) (by simp [results, Tryz.results10, go_sem]) rfl ⟨rfl, ((Below.refl _ w).alloc (Nat.le_refl _) _).alloc (by simp) _⟩
theorem whole_any (w : World) : Calls Tryz.prog 17 #[] w fun e w' => e = .returned (.agg #[.int .i64 (-1), .string ⟨#[]⟩]) ∧ Below w.heap.size w w' := by
  go_enter Tryz.func17, Tryz.ntmps17
  go_wp2
  exact bodyPost_ret (v := .agg #[.int .i64 (-1), .string ⟨#[]⟩]) (by simp [results, Tryz.results17, go_sem]) rfl ⟨rfl, (Below.refl _ w).alloc (Nat.le_refl _) _⟩
theorem air_any (w : World) : Calls Tryz.prog 14 #[] w fun e w' => e = .returned (.agg #[.float .f64 4621819117588971520, .float .f64 4621819117588971520, .float .f64 0]) ∧ Below w.heap.size w w' := by
  have k0 := Blk.new w 53 #[.float .f64 0, .float .f64 0, .float .f64 0]
  have hi : (Tryz.prog.info? 53).map (·.size) = some (#[.float .f64 4621819117588971520, .float .f64 4621819117588971520, .float .f64 0] : Array Value).size := by kernel_rfl
  have h1 : (#[.float .f64 4621819117588971520, .float .f64 4621819117588971520, .float .f64 0] : Array Value).all (·.oneCell') = true := by kernel_rfl
  have k1 := k0.row #[.float .f64 4621819117588971520, .float .f64 4621819117588971520, .float .f64 0]
  have B1 := bel_row ((Below.refl _ w).alloc (Nat.le_refl _) (.cells #[.float .f64 0, .float .f64 0, .float .f64 0] 53)) w.heap.size (Nat.le_refl _) #[.float .f64 4621819117588971520, .float .f64 4621819117588971520, .float .f64 0]
  go_enter Tryz.func14, Tryz.ntmps14
  go_wp2_with (refine wpList_store_row rfl 53 (.tmp 0) (.tmp 1) rfl w.heap.size #[.float .f64 4621819117588971520, .float .f64 4621819117588971520, .float .f64 0] rfl rfl 53 _ k0 hi rfl h1 ?_)
  exact bodyPost_ret (v := .agg #[.float .f64 4621819117588971520, .float .f64 4621819117588971520, .float .f64 0]) (results_cell_row rfl _ _ w.heap.size 53 _ (0, 0) _ rfl k1 Tryz.underlying53 rfl hi) rfl ⟨rfl, B1⟩
theorem r05Size_any (n : Int) (h1 : 1 ≤ n) (h2 : n ≤ 12) (w : World) : Calls Tryz.prog 19 #[.int .i64 n] w fun e w' => e = .returned (.int .i64 (24 * n + 24)) ∧ w = w' := by
  have d1 : decide (n < 1) = false := by simp; omega
  have d2 : decide (12 < n) = false := by simp; omega
  go_enter Tryz.func19, Tryz.ntmps19
  go_wp2
  go_ret
  exact ⟨rfl, rfl⟩
end Go.Proofs.YtebkeocpojlepaaGreatDoor
