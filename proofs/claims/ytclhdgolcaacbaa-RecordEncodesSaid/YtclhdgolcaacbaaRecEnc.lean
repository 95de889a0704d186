/- The walk of the law RecordEncodes. -/
import Derived.Test.YtclhdgolcaacbaaRefBody
import Derived.Test.YtclhdgolcaacbaaRecShown
namespace Go.Proofs.Ytclhdgolcaacbaa
open Go.RowKit
set_option linter.unusedVariables false
set_option linter.unusedSimpArgs false

theorem mark_rec (w : World) : Calls Try.prog 14 #[] w fun e w' => e = .returned (.string ⟨#[90, 60]⟩) ∧ Below w.heap.size w w' := by
  go_enter Try.func14, Try.ntmps14
  go_wp2
  go_ret
  exact ⟨rfl, Below.refl _ _⟩

set_option maxHeartbeats 4000000 in
theorem encs_walk (k n d : Int) (hk : (Lit.int .i64 k).wf = true) (hn : (Lit.int .u64 n).wf = true) (hd : (Lit.int .u64 d).wf = true) (w : World) :
    Calls Try.prog 3 #[.agg #[.int .i64 k, .int .u64 n, .int .u64 d]] w fun e w' => e = .returned (.bool true) ∧ Below w.heap.size w w' := by
  simp [Lit.wf, IntKind.min, IntKind.max, IntKind.signed, IntKind.bits] at hn hd
  obtain ⟨n, rfl⟩ := Int.eq_ofNat_of_zero_le hn.1
  obtain ⟨d, rfl⟩ := Int.eq_ofNat_of_zero_le hd.1
  have hn2 : n < 18446744073709551616 := by omega
  have hd2 : d < 18446744073709551616 := by omega
  have h1 := fun W => Body_any k n d hk hn2 hd2 W
  have h2 := fun W => rBody_any k n d hk hn2 hd2 W
  have h3 := fun W => Encode_any k n d hk hn2 hd2 W
  have h4 := fun W => rEncode_any k n d hk hn2 hd2 W
  clear hn hd
  generalize bodyB k n d = X at *
  generalize encB k n d = Y at *
  have k1 := (Blk.new w 24 #[.int .i64 k, .int .u64 (n : Int), .int .u64 (d : Int)]).alloc (.cells #[.int .i64 k, .int .u64 (n : Int), .int .u64 (d : Int)] 25)
  have k2 := Blk.new (w.alloc (.cells #[.int .i64 k, .int .u64 (n : Int), .int .u64 (d : Int)] 24)) 25 #[.int .i64 k, .int .u64 (n : Int), .int .u64 (d : Int)]
  have B0 : Below w.heap.size w ((w.alloc (.cells #[.int .i64 k, .int .u64 (n : Int), .int .u64 (d : Int)] 24)).alloc (.cells #[.int .i64 k, .int .u64 (n : Int), .int .u64 (d : Int)] 25)) := ((Below.refl _ w).alloc (Nat.le_refl _) _).alloc (by simp) _
  rw [World.size_alloc] at k2
  go_enter Try.func3, Try.ntmps3
  go_wp2_with fail
  generalize World.alloc (World.alloc w _) _ = W0 at *
  have a0 : ∀ m : CalmW W0.heap.size W0, m.val.cell? ⟨w.heap.size, 0, none⟩ = some (.int .i64 k) := fun m => (m.below.cell (p := ⟨w.heap.size, 0, none⟩) k1.lt).trans ((k1.cell 0).trans (by simp))
  have a1 : ∀ m : CalmW W0.heap.size W0, m.val.cell? ⟨w.heap.size, 1, none⟩ = some (.int .u64 (n : Int)) := fun m => (m.below.cell (p := ⟨w.heap.size, 1, none⟩) k1.lt).trans ((k1.cell 1).trans (by simp))
  have a2 : ∀ m : CalmW W0.heap.size W0, m.val.cell? ⟨w.heap.size, 2, none⟩ = some (.int .u64 (d : Int)) := fun m => (m.below.cell (p := ⟨w.heap.size, 2, none⟩) k1.lt).trans ((k1.cell 2).trans (by simp))
  have c0 : ∀ m : CalmW W0.heap.size W0, m.val.cell? ⟨w.heap.size + 1, 0, none⟩ = some (.int .i64 k) := fun m => (m.below.cell (p := ⟨w.heap.size + 1, 0, none⟩) k2.lt).trans ((k2.cell 0).trans (by simp))
  have c1 : ∀ m : CalmW W0.heap.size W0, m.val.cell? ⟨w.heap.size + 1, 1, none⟩ = some (.int .u64 (n : Int)) := fun m => (m.below.cell (p := ⟨w.heap.size + 1, 1, none⟩) k2.lt).trans ((k2.cell 1).trans (by simp))
  have c2 : ∀ m : CalmW W0.heap.size W0, m.val.cell? ⟨w.heap.size + 1, 2, none⟩ = some (.int .u64 (d : Int)) := fun m => (m.below.cell (p := ⟨w.heap.size + 1, 2, none⟩) k2.lt).trans ((k2.cell 2).trans (by simp))
  refine wp_region_calm W0.heap.size (by kernel_rfl) (by kernel_rfl) ?_
  repeat (go_big_quiet_step (first | (with_reducible refine calm_of (Nat.le_refl _) (h1 _)) | (with_reducible refine calm_of (Nat.le_refl _) (h2 _)) | (with_reducible refine calm_of (Nat.le_refl _) (h3 _)) | (with_reducible refine calm_of (Nat.le_refl _) (h4 _)) | (with_reducible refine calm_of (Nat.le_refl _) (mark_rec _)) | (with_reducible refine calm_of (Nat.le_refl _) (rMark_any _)) | (with_reducible refine calm_of (Nat.le_refl _) (shown_any _))))
  refine wpQuiet_nil ?_
  rintro W1 ⟨⟨W2, b2⟩, rfl⟩
  go_wp2
  go_ret
  exact ⟨rfl, bthen B0 b2⟩
end Go.Proofs.Ytclhdgolcaacbaa
