/- The walk of the law FlashTwice. -/
import Derived.Test.YtcpcceeggjjifaaFlashA
import Derived.Test.YtcpcceeggjjifaaFlashEq
namespace Go.Proofs.Ytcpcceeggjjifaa
open Go.RowKit
set_option linter.unusedVariables false
set_option linter.unusedSimpArgs false

theorem twice_out (f : Fl) (ha : f.a.size ≤ maxLen) (hb : f.b.size ≤ maxLen) (k a b : Int) (s t : ByteArray) (hs : s.size ≤ maxLen) (ht : t.size ≤ maxLen)
    (h : (500 < f.a.size ∨ 500 < f.b.size) ∨ ((f.a.size ≤ 500 ∧ f.b.size ≤ 500) ∧ 500 < s.size) ∨ ((f.a.size ≤ 500 ∧ f.b.size ≤ 500) ∧ s.size ≤ 500 ∧ 500 < t.size)) (w : World) :
    Calls Try.prog 6 #[flV f, .int .i64 k, .int .i64 a, .int .i64 b, .string s, .string t] w fun e w' => e = .returned (.bool true) ∧ Below w.heap.size w w' := by
  unfold maxLen at hs ht
  rcases h with h | ⟨⟨g1, g2⟩, h⟩ | ⟨⟨g1, g2⟩, h, h2⟩
  · go_enter Try.func6, Try.ntmps6
    go_wp2_with (first | (with_reducible refine (big_yes f h ha hb _).mono ?_; rintro e w1 ⟨rfl, b1⟩) | (with_reducible refine (shown_any _).mono ?_; rintro e w2 ⟨rfl, b2⟩))
    go_ret
    exact ⟨rfl, bthen (bthen ((Below.refl _ w).alloc (Nat.le_refl _) _) b1) b2⟩
  all_goals
    go_enter Try.func6, Try.ntmps6
    go_wp2_with (first | (with_reducible refine (big_no f g1 g2 _).mono ?_; rintro e w1 ⟨rfl, b1⟩) | (with_reducible refine (shown_any _).mono ?_; rintro e w2 ⟨rfl, b2⟩))
    go_ret
    exact ⟨rfl, bthen (bthen ((Below.refl _ w).alloc (Nat.le_refl _) _) b1) b2⟩

set_option maxHeartbeats 4000000 in
set_option maxRecDepth 100000 in
theorem twice_in (f : Fl) (hf : f.ok) (k a b : Int) (s t : ByteArray) (hk : (Lit.int .i64 k).wf = true) (wa : (Lit.int .i64 a).wf = true) (wb : (Lit.int .i64 b).wf = true) (hs : s.size ≤ 500) (ht : t.size ≤ 500) (w : World) :
    Calls Try.prog 6 #[flV f, .int .i64 k, .int .i64 a, .int .i64 b, .string s, .string t] w fun e w' => e = .returned (.bool true) ∧ Below w.heap.size w w' := by
  have hms : s.size ≤ maxLen := by unfold maxLen; omega
  have hmt : t.size ≤ maxLen := by unfold maxLen; omega
  have h1 := Program_any f hf k a s hk wa hms
  have h2 := Program_any _ (pgF_ok hf k a s) k a s hk wa hms
  have h3 := Program_any _ (pgF_ok hf k a s) k b t hk wb hmt
  have h4 := Program_any f hf k b t hk wb hmt
  have h5 := Program_any _ (pgF_ok hf k b t) k a s hk wa hms
  rw [pgF_twice, pgE_twice] at h2
  rw [pgE_twice] at h3
  rw [← pgF_swap, pgE_twice] at h5
  generalize pgF (pgF f k a s) k b t = F2 at *
  generalize pgF f k a s = F1 at *
  generalize pgF f k b t = F3 at *
  generalize pgE f k a s = E1 at *
  generalize pgE f k b t = E2 at *
  clear hms hmt
  dsimp only [flV] at h1 h2 h3 h4 h5
  have k0 := Blk.new w 28 (flashC f.a f.b f.x f.y f.l)
  have B0 : Below w.heap.size w (w.alloc (.cells (flashC f.a f.b f.x f.y f.l) 28)) := (Below.refl _ w).alloc (Nat.le_refl _) _
  go_enter Try.func6, Try.ntmps6
  go_wp2_with (with_reducible refine (big_no f hf.ha hf.hb _).mono ?_)
  rintro e w1 ⟨rfl, b1⟩
  have k1 := k0.below b1 k0.lt
  have B1 := bthen B0 b1
  clear k0 b1 B0
  go_wp2_with (with_reducible refine (shown_any _).mono ?_)
  rintro e w2 ⟨rfl, b2⟩
  have kf := k1.below b2 k1.lt
  have B := bthen B1 b2
  clear k1 b2 B1
  have r_0 := kf.cell 0
  have r_1 := kf.cell 1
  have r_2 := kf.cell 2
  have r_3 := kf.cell 3
  have r_4 := kf.cell 4
  simp [flashC] at r_0 r_1 r_2 r_3 r_4
  go_wp2_with (with_reducible refine (h1 _).mono ?_)
  rintro e w3 ⟨rfl, b⟩
  have kf3 := (kf.below b kf.lt).alloc (.cells (flashC F1.a F1.b F1.x F1.y F1.l) 28)
  have kx3 := Blk.new w3 28 (flashC F1.a F1.b F1.x F1.y F1.l)
  have B3 := (bthen B b).alloc (bthen B b).size (.cells (flashC F1.a F1.b F1.x F1.y F1.l) 28)
  clear r_0 r_1 r_2 r_3 r_4
  clear kf B b
  have r_0 := kx3.cell 0
  have r_1 := kx3.cell 1
  have r_2 := kx3.cell 2
  have r_3 := kx3.cell 3
  have r_4 := kx3.cell 4
  simp [flashC] at r_0 r_1 r_2 r_3 r_4
  go_wp2_with (with_reducible refine (h2 _).mono ?_)
  rintro e w4 ⟨rfl, b⟩
  have kf4 := (kf3.below b kf3.lt).alloc (.cells (flashC F1.a F1.b F1.x F1.y F1.l) 28)
  have kx4 := (kx3.below b kx3.lt).alloc (.cells (flashC F1.a F1.b F1.x F1.y F1.l) 28)
  have ky4 := Blk.new w4 28 (flashC F1.a F1.b F1.x F1.y F1.l)
  have B4 := (bthen B3 b).alloc (bthen B3 b).size (.cells (flashC F1.a F1.b F1.x F1.y F1.l) 28)
  clear r_0 r_1 r_2 r_3 r_4
  clear kf3 kx3 B3 b
  have r_0 := kx4.cell 0
  have r_1 := kx4.cell 1
  have r_2 := kx4.cell 2
  have r_3 := kx4.cell 3
  have r_4 := kx4.cell 4
  simp [flashC] at r_0 r_1 r_2 r_3 r_4
  go_wp2_with (with_reducible refine (h3 _).mono ?_)
  rintro e w5 ⟨rfl, b⟩
  have kf5 := (kf4.below b kf4.lt).alloc (.cells (flashC F2.a F2.b F2.x F2.y F2.l) 28)
  have kx5 := (kx4.below b kx4.lt).alloc (.cells (flashC F2.a F2.b F2.x F2.y F2.l) 28)
  have ky5 := (ky4.below b ky4.lt).alloc (.cells (flashC F2.a F2.b F2.x F2.y F2.l) 28)
  have kz5 := Blk.new w5 28 (flashC F2.a F2.b F2.x F2.y F2.l)
  have B5 := (bthen B4 b).alloc (bthen B4 b).size (.cells (flashC F2.a F2.b F2.x F2.y F2.l) 28)
  clear r_0 r_1 r_2 r_3 r_4
  clear kf4 kx4 ky4 B4 b
  have r_0 := kf5.cell 0
  have r_1 := kf5.cell 1
  have r_2 := kf5.cell 2
  have r_3 := kf5.cell 3
  have r_4 := kf5.cell 4
  simp [flashC] at r_0 r_1 r_2 r_3 r_4
  go_wp2_with (with_reducible refine (h4 _).mono ?_)
  rintro e w6 ⟨rfl, b⟩
  have kx6 := (kx5.below b kx5.lt).alloc (.cells (flashC F3.a F3.b F3.x F3.y F3.l) 28)
  have ky6 := (ky5.below b ky5.lt).alloc (.cells (flashC F3.a F3.b F3.x F3.y F3.l) 28)
  have kz6 := (kz5.below b kz5.lt).alloc (.cells (flashC F3.a F3.b F3.x F3.y F3.l) 28)
  have ku6 := Blk.new w6 28 (flashC F3.a F3.b F3.x F3.y F3.l)
  have B6 := (bthen B5 b).alloc (bthen B5 b).size (.cells (flashC F3.a F3.b F3.x F3.y F3.l) 28)
  clear r_0 r_1 r_2 r_3 r_4
  clear kf5 kx5 ky5 kz5 B5 b
  have r_0 := ku6.cell 0
  have r_1 := ku6.cell 1
  have r_2 := ku6.cell 2
  have r_3 := ku6.cell 3
  have r_4 := ku6.cell 4
  simp [flashC] at r_0 r_1 r_2 r_3 r_4
  go_wp2_with (with_reducible refine (h5 _).mono ?_)
  rintro e w7 ⟨rfl, b⟩
  have kx7 := (kx6.below b kx6.lt).alloc (.cells (flashC F2.a F2.b F2.x F2.y F2.l) 28)
  have ky7 := (ky6.below b ky6.lt).alloc (.cells (flashC F2.a F2.b F2.x F2.y F2.l) 28)
  have kz7 := (kz6.below b kz6.lt).alloc (.cells (flashC F2.a F2.b F2.x F2.y F2.l) 28)
  have B7 := (bthen B6 b).alloc (bthen B6 b).size (.cells (flashC F2.a F2.b F2.x F2.y F2.l) 28)
  clear r_0 r_1 r_2 r_3 r_4
  clear kx6 ky6 kz6 ku6 B6 b
  have r_0 := kx7.cell 0
  have r_1 := kx7.cell 1
  have r_2 := kx7.cell 2
  have r_3 := kx7.cell 3
  have r_4 := kx7.cell 4
  simp [flashC] at r_0 r_1 r_2 r_3 r_4
  have s_0 := ky7.cell 0
  have s_1 := ky7.cell 1
  have s_2 := ky7.cell 2
  have s_3 := ky7.cell 3
  have s_4 := ky7.cell 4
  simp [flashC] at s_0 s_1 s_2 s_3 s_4
  have t_0 := kz7.cell 0
  have t_1 := kz7.cell 1
  have t_2 := kz7.cell 2
  have t_3 := kz7.cell 3
  have t_4 := kz7.cell 4
  simp [flashC] at t_0 t_1 t_2 t_3 t_4
  have q1 := eq_strs F1.a F1.b F1.a F1.b
  have q2 := eq_ints F1.x F1.y F1.x F1.y
  have q3 := eq_strs F2.a F2.b F2.a F2.b
  have q4 := eq_ints F2.x F2.y F2.x F2.y
  simp at q1 q2 q3 q4
  go_wp2
  go_ret
  exact ⟨rfl, B7⟩

theorem FlashTwice_walk (f : Fl) (k a b : Int) (s t : ByteArray) (wx : (Lit.int .i64 f.x).wf = true) (wy : (Lit.int .i64 f.y).wf = true) (wl : (Lit.int .i64 f.l).wf = true) (wa : f.a.size ≤ maxLen) (wb : f.b.size ≤ maxLen)
    (hk : (Lit.int .i64 k).wf = true) (ha : (Lit.int .i64 a).wf = true) (hb : (Lit.int .i64 b).wf = true) (hs : s.size ≤ maxLen) (ht : t.size ≤ maxLen) (w : World) :
    Calls Try.prog 6 #[flV f, .int .i64 k, .int .i64 a, .int .i64 b, .string s, .string t] w fun e w' => e = .returned (.bool true) ∧ Below w.heap.size w w' := by
  by_cases h : (500 < f.a.size ∨ 500 < f.b.size) ∨ ((f.a.size ≤ 500 ∧ f.b.size ≤ 500) ∧ 500 < s.size) ∨ ((f.a.size ≤ 500 ∧ f.b.size ≤ 500) ∧ s.size ≤ 500 ∧ 500 < t.size)
  · exact twice_out f wa wb k a b s t hs ht h w
  · exact twice_in f ⟨wx, wy, wl, by omega, by omega⟩ k a b s t hk ha hb (by omega) (by omega) w
end Go.Proofs.Ytcpcceeggjjifaa
