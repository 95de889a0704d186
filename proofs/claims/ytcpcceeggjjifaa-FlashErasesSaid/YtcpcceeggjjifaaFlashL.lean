/- The flash laws' shown, its, big. -/
import Derived.Test.YtcpcceeggjjifaaFlashN
namespace Go.Proofs.Ytcpcceeggjjifaa
open Go.RowKit
set_option linter.unusedVariables false
set_option linter.unusedSimpArgs false

theorem ba {w W W' : World} {o : Obj} (h : Below w.heap.size w W) (b : Below (W.alloc o).heap.size (W.alloc o) W') : Below w.heap.size w W' := bthen (h.alloc h.size o) b
theorem okLit : (Lit.int .i64 0).wf = true ∧ (Lit.int .i64 1).wf = true ∧ (Lit.int .i64 2).wf = true ∧ (Lit.int .i64 3).wf = true := by decide
abbrev sh0 : Fl := ⟨⟨#[255, 255, 255, 255]⟩, ⟨#[255, 255, 255, 255]⟩, 0, 0, 1⟩
abbrev sh1 : Fl := ⟨⟨#[255, 255, 255, 255]⟩, ⟨#[255, 255, 240, 15]⟩, 0, 0, 1⟩
abbrev sh2 : Fl := ⟨⟨#[255, 255, 255, 255]⟩, ⟨#[255, 255, 0, 15]⟩, 0, 0, 1⟩
abbrev sh3 : Fl := ⟨⟨#[255, 255, 255, 255]⟩, ⟨#[255, 255, 255, 255]⟩, 0, 1, 1⟩
theorem shN : newF 4 1 = sh0 := by kernel_rfl
theorem shP1 : pgF sh0 1 2 ⟨#[240, 15]⟩ = sh1 ∧ pgE sh0 1 2 ⟨#[240, 15]⟩ = 0 := ⟨by kernel_rfl, by kernel_rfl⟩
theorem shP2 : pgF sh1 1 2 ⟨#[15, 255]⟩ = sh2 ∧ pgE sh1 1 2 ⟨#[15, 255]⟩ = 0 := ⟨by kernel_rfl, by kernel_rfl⟩
theorem shR : rdS sh2 1 1 3 = ⟨#[255, 0, 15]⟩ ∧ rdE sh2 1 1 3 = 0 := ⟨by kernel_rfl, by kernel_rfl⟩
theorem shE1 : erF sh2 1 = sh3 ∧ erE sh2 1 = 0 := ⟨by kernel_rfl, by kernel_rfl⟩
theorem shE2 : erF sh3 1 = sh3 ∧ erE sh3 1 = 4 := ⟨by kernel_rfl, by kernel_rfl⟩
theorem ok0 : sh0.ok := ⟨by decide, by decide, by decide, by decide, by decide⟩
theorem ok1 : sh1.ok := ⟨by decide, by decide, by decide, by decide, by decide⟩
theorem ok2 : sh2.ok := ⟨by decide, by decide, by decide, by decide, by decide⟩
theorem ok3 : sh3.ok := ⟨by decide, by decide, by decide, by decide, by decide⟩

set_option maxHeartbeats 1000000 in
theorem shown_any (w : World) : Calls Try.prog 9 #[] w fun e w' => e = .returned (.bool true) ∧ Below w.heap.size w w' := by
  have h0 := New_any 4 1
  have h1 := Program_any sh0 ok0 1 2 ⟨#[240, 15]⟩ (by decide) (by decide) (by decide)
  have h2 := Program_any sh1 ok1 1 2 ⟨#[15, 255]⟩ (by decide) (by decide) (by decide)
  have h3 := Read_any sh2 ok2 1 1 3 (by decide) (by decide) (by decide)
  have h4 := Erase_any sh2 ok2 1 (by decide)
  have h5 := Erase_any sh3 ok3 1 (by decide)
  rw [shN] at h0
  rw [shP1.1, shP1.2] at h1
  rw [shP2.1, shP2.2] at h2
  rw [shR.1, shR.2] at h3
  rw [shE1.1, shE1.2] at h4
  rw [shE2.1, shE2.2] at h5
  have h6 := Blank_any ⟨#[255, 255, 255, 255]⟩
  have h7 := Blank_any ⟨#[255, 0, 15]⟩
  rw [show blankS ⟨#[255, 255, 255, 255]⟩ = true from by decide] at h6
  rw [show blankS ⟨#[255, 0, 15]⟩ = false from by decide] at h7
  dsimp only [flV, sh0, sh1, sh2, sh3] at h0 h1 h2 h3 h4 h5
  go_enter Try.func9, Try.ntmps9
  go_wp2_with (with_reducible refine (h0 _).mono ?_)
  rintro e w1 ⟨rfl, b1⟩
  go_wp2_with (with_reducible refine (h1 _).mono ?_)
  rintro e w2 ⟨rfl, b2⟩
  go_wp2_with (with_reducible refine (h2 _).mono ?_)
  rintro e w3 ⟨rfl, b3⟩
  have k3 := Blk.new w3 28 (#[.string ⟨#[255, 255, 255, 255]⟩, .string ⟨#[255, 255, 0, 15]⟩, .int .i64 0, .int .i64 0, .int .i64 1] : Array Value)
  go_wp2_with (with_reducible refine (h3 _).mono ?_)
  rintro e w4 ⟨rfl, b4⟩
  have k4 := k3.below b4 k3.lt
  have r0 := k4.cell 0
  have r1 := k4.cell 1
  have r2 := k4.cell 2
  have r3 := k4.cell 3
  have r4 := k4.cell 4
  simp at r0 r1 r2 r3 r4
  go_wp2_with (with_reducible refine (h4 _).mono ?_)
  rintro e w5 ⟨rfl, b5⟩
  go_wp2_with (with_reducible refine (h5 _).mono ?_)
  rintro e w6 ⟨rfl, b6⟩
  have k5 := (Blk.new w5 28 (#[.string ⟨#[255, 255, 255, 255]⟩, .string ⟨#[255, 255, 255, 255]⟩, .int .i64 0, .int .i64 1, .int .i64 1] : Array Value)).below b6 (by simp)
  have k6 := k5.alloc (.cells #[.string ⟨#[255, 255, 255, 255]⟩, .string ⟨#[255, 255, 255, 255]⟩, .int .i64 0, .int .i64 1, .int .i64 1] 28)
  have s1 := k6.cell 1
  have s3 := k6.cell 3
  simp at s1 s3
  go_wp2_with (first | (with_reducible refine (h6 _).mono ?_; rintro e w7 ⟨rfl, rfl⟩) | (with_reducible refine (h7 _).mono ?_; rintro e w8 ⟨rfl, rfl⟩))
  have B1 := b1
  have B6 := ba (bthen (ba (ba (ba B1 b2) b3) b4) b5) b6
  go_ret
  exact ⟨rfl, B6.alloc B6.size _⟩

theorem its_any (f : Fl) (w : World) : Calls Try.prog 10 #[flV f] w fun e w' => e = .returned (flV f) ∧ Below w.heap.size w w' := by
  go_enter Try.func10, Try.ntmps10
  go_wp2
  exact bodyPost_ret (v := flV f) (by simp [results, Try.results10, go_sem]) rfl ⟨rfl, ((Below.refl _ w).alloc (Nat.le_refl _) _).alloc (by simp) _⟩

theorem big_no (f : Fl) (ha : f.a.size ≤ 500) (hb : f.b.size ≤ 500) (w : World) : Calls Try.prog 15 #[flV f] w fun e w' => e = .returned (.bool false) ∧ Below w.heap.size w w' := by
  go_enter Try.func15, Try.ntmps15
  go_wp2
  go_ret
  exact ⟨ret_bool (by simp; omega), (Below.refl _ w).alloc (Nat.le_refl _) _⟩

theorem big_yes (f : Fl) (h : 500 < f.a.size ∨ 500 < f.b.size) (ha : f.a.size ≤ maxLen) (hb : f.b.size ≤ maxLen) (w : World) : Calls Try.prog 15 #[flV f] w fun e w' => e = .returned (.bool true) ∧ Below w.heap.size w w' := by
  have hc : 500 < f.a.size ∨ (f.a.size ≤ 500 ∧ 500 < f.b.size) := by omega
  clear h
  unfold maxLen at ha hb
  rcases hc with h | ⟨h, h2⟩
  all_goals
    go_enter Try.func15, Try.ntmps15
    go_wp2
    go_ret
    exact ⟨ret_bool (by first | (simp; done) | (simp; omega)), (Below.refl _ w).alloc (Nat.le_refl _) _⟩
end Go.Proofs.Ytcpcceeggjjifaa
