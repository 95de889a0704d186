/- flash.New, dogwatchref03.New; dogwatchref01.at, And. -/
import Derived.Test.YthagnnaemcknfaaFlashM
import Derived.Test.YthagnnaemcknfaaBytesApp
namespace Go.Proofs.Ythagnnaemcknfaa
open Go.RowKit
set_option linter.unusedVariables false
set_option linter.unusedSimpArgs false

theorem five_stores {w W3 : World} {A base : Nat} {t : TypeId} {u0 u1 u2 u3 u4 v0 v1 v2 v3 v4 : Value} (e0 : Blk W3 A t #[u0, u1, u2, u3, u4]) (hb : Below base w W3) (hA : base ≤ A) :
    Blk (((((W3.setCell ⟨A, 0, none⟩ v0).setCell ⟨A, 1, none⟩ v1).setCell ⟨A, 2, none⟩ v2).setCell ⟨A, 3, none⟩ v3).setCell ⟨A, 4, none⟩ v4) A t #[v0, v1, v2, v3, v4] ∧
    Below base w (((((W3.setCell ⟨A, 0, none⟩ v0).setCell ⟨A, 1, none⟩ v1).setCell ⟨A, 2, none⟩ v2).setCell ⟨A, 3, none⟩ v3).setCell ⟨A, 4, none⟩ v4) :=
  ⟨by simpa using (((((e0.set 0 v0).set 1 v1).set 2 v2).set 3 v3).set 4 v4),
   ((((hb.setCell (p := ⟨A, 0, none⟩) hA v0).setCell (p := ⟨A, 1, none⟩) hA v1).setCell (p := ⟨A, 2, none⟩) hA v2).setCell (p := ⟨A, 3, none⟩) hA v3).setCell (p := ⟨A, 4, none⟩) hA v4⟩

theorem New_any (n l : Int) (w : World) : Calls Try.prog 12 #[.int .i64 n, .int .i64 l] w fun e w' => e = .returned (flV (newF n l)) ∧ Below w.heap.size w w' := by
  have k0 := Blk.new w 25 #[.string ⟨#[]⟩, .string ⟨#[]⟩, .int .i64 0, .int .i64 0, .int .i64 0]
  have B0 : Below w.heap.size w (w.alloc (.cells #[.string ⟨#[]⟩, .string ⟨#[]⟩, .int .i64 0, .int .i64 0, .int .i64 0] 25)) := (Below.refl _ w).alloc (Nat.le_refl _) _
  by_cases h : n < 0 ∨ 400 < n ∨ l < 0 ∨ 1000 < l
  · have hF : newF n l = ⟨⟨#[]⟩, ⟨#[]⟩, 0, 0, 0⟩ := if_pos h
    rw [hF]
    have hc : n < 0 ∨ (0 ≤ n ∧ 400 < n) ∨ (0 ≤ n ∧ n ≤ 400 ∧ l < 0) ∨ (0 ≤ n ∧ n ≤ 400 ∧ 0 ≤ l ∧ 1000 < l) := by omega
    clear h
    rcases hc with h1 | ⟨h1, h2⟩ | ⟨h1, h2, h3⟩ | ⟨h1, h2, h3, h4⟩
    all_goals
      go_enter Try.func12, Try.ntmps12
      go_wp2
      exact bodyPost_ret (v := flV ⟨⟨#[]⟩, ⟨#[]⟩, 0, 0, 0⟩) (by simp [results, Try.results12, go_sem]) rfl ⟨rfl, B0⟩
  · have hF : newF n l = ⟨fullB n.toNat, fullB n.toNat, 0, 0, l⟩ := if_neg h
    rw [hF]
    obtain ⟨n, rfl⟩ := Int.eq_ofNat_of_zero_le (show 0 ≤ n by omega)
    have h2 : (n : Int) ≤ 400 := by omega
    have h3 : 0 ≤ l := by omega
    have h4 : l ≤ 1000 := by omega
    clear h
    rw [Int.toNat_natCast]
    have hrep : ∀ W, Calls Try.prog 19 #[.string ⟨#[255]⟩,.int .i64 (n : Int)] W fun e w' => e = .returned (.string (fullB n)) ∧ Below W.heap.size W w' := fun W => Repeat_any n (by omega) W
    generalize fullB n = F at *
    go_enter Try.func12, Try.ntmps12
    go_wp2_with (with_reducible refine (hrep _).mono ?_)
    rintro e w1 ⟨rfl, b1⟩
    have k1 := k0.below b1 k0.lt
    have B1 := bthen B0 b1
    clear k0 B0 b1
    have r0 := k1.cell 0
    have r1 := k1.cell 1
    have r2 := k1.cell 2
    have r3 := k1.cell 3
    have r4 := k1.cell 4
    have f0 := k1.frozen 0
    have f1 := k1.frozen 1
    have f2 := k1.frozen 2
    have f3 := k1.frozen 3
    have f4 := k1.frozen 4
    simp at r0 r1 r2 r3 r4
    go_wp2
    obtain ⟨g0, B2⟩ := five_stores (v0 := .string F) (v1 := .string F) (v2 := .int .i64 0) (v3 := .int .i64 0) (v4 := .int .i64 l) k1 B1 (Nat.le_refl _)
    clear r0 r1 r2 r3 r4 f0 f1 f2 f3 f4 k1
    generalize World.setCell (World.setCell (World.setCell (World.setCell (World.setCell w1 _ _) _ _) _ _) _ _) _ _ = W6 at *
    have r0 := g0.cell 0
    have r1 := g0.cell 1
    have r2 := g0.cell 2
    have r3 := g0.cell 3
    have r4 := g0.cell 4
    simp at r0 r1 r2 r3 r4
    exact bodyPost_ret (v := flV ⟨F, F, 0, 0, l⟩) (by simp [results, Try.results12, go_sem, r0, r1, r2, r3, r4]) rfl ⟨rfl, B2⟩
end Go.Proofs.Ythagnnaemcknfaa
