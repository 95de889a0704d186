/- The walk of the law FlashSees. -/
import Derived.Test.YtcpcceeggjjifaaFlashA
import Derived.Test.YtcpcceeggjjifaaRef01
import Derived.Test.YtcpcceeggjjifaaRef03
namespace Go.Proofs.Ytcpcceeggjjifaa
open Go.RowKit
set_option linter.unusedVariables false
set_option linter.unusedSimpArgs false

theorem sees_out (f : Fl) (ha : f.a.size ≤ maxLen) (hb : f.b.size ≤ maxLen) (k t : Int) (d : ByteArray) (hd : d.size ≤ maxLen)
    (h : (500 < f.a.size ∨ 500 < f.b.size) ∨ ((f.a.size ≤ 500 ∧ f.b.size ≤ 500) ∧ 500 < d.size)) (w : World) :
    Calls Try.prog 8 #[flV f, .int .i64 k, .int .i64 t, .string d] w fun e w' => e = .returned (.bool true) ∧ Below w.heap.size w w' := by
  unfold maxLen at hd
  rcases h with h | ⟨⟨g1, g2⟩, h⟩
  · go_enter Try.func8, Try.ntmps8
    go_wp2_with (first | (with_reducible refine (big_yes f h ha hb _).mono ?_; rintro e w1 ⟨rfl, b1⟩) | (with_reducible refine (shown_any _).mono ?_; rintro e w2 ⟨rfl, b2⟩))
    go_ret
    exact ⟨rfl, bthen (bthen ((Below.refl _ w).alloc (Nat.le_refl _) _) b1) b2⟩
  · go_enter Try.func8, Try.ntmps8
    go_wp2_with (first | (with_reducible refine (big_no f g1 g2 _).mono ?_; rintro e w1 ⟨rfl, b1⟩) | (with_reducible refine (shown_any _).mono ?_; rintro e w2 ⟨rfl, b2⟩))
    go_ret
    exact ⟨rfl, bthen (bthen ((Below.refl _ w).alloc (Nat.le_refl _) _) b1) b2⟩

set_option maxHeartbeats 4000000 in
theorem sees_in (f : Fl) (hf : f.ok) (k t : Int) (d : ByteArray) (hk : (Lit.int .i64 k).wf = true) (wt : (Lit.int .i64 t).wf = true) (hd : d.size ≤ 500) (w : World) :
    Calls Try.prog 8 #[flV f, .int .i64 k, .int .i64 t, .string d] w fun e w' => e = .returned (.bool true) ∧ Below w.heap.size w w' := by
  have wn : (Lit.int .i64 (d.size : Int)).wf = true := by simp [Lit.wf, IntKind.min, IntKind.max, IntKind.signed, IntKind.bits]; omega
  have h1 := Read_any f hf k t d.size hk wt wn
  have h2 := Program_any f hf k t d hk wt (by unfold maxLen; omega)
  have h3 := Read_any _ (pgF_ok hf k t d) k t d.size hk wt wn
  clear wn
  by_cases hE : pgE f k t d = 0
  · obtain ⟨e1, e2, e3, e4⟩ := sees_ok hE
    have hs := rdS_size hf k t d.size
    rw [e1] at h1
    rw [hE] at h2
    rw [e2, e3] at h3
    have h4 := rAnd_any (rdS f k t d.size) d (by omega)
    have h5 := rBlank_any (rdS f k t d.size) (by omega)
    have hbl := fun h => blank_and (rdS f k t d.size) d h e4
    clear hE e1 e2 e3 e4 hk wt
    generalize rdS f k t d.size = S at *
    generalize pgF f k t d = F1 at *
    by_cases hB : blankS S = true
    · rw [hB] at h5
      have e := hbl hB
      rw [e] at h3 h4
      clear hB hbl e
      have k0 := Blk.new w 28 (flashC f.a f.b f.x f.y f.l)
      have B0 : Below w.heap.size w (w.alloc (.cells (flashC f.a f.b f.x f.y f.l) 28)) := (Below.refl _ w).alloc (Nat.le_refl _) _
      go_enter Try.func8, Try.ntmps8
      go_wp2_with (with_reducible refine (big_no f hf.ha hf.hb _).mono ?_)
      rintro e w1 ⟨rfl, b1⟩
      have k1 := k0.below b1 k0.lt
      have B1 := bthen B0 b1
      clear k0 b1 B0
      go_wp2_with (with_reducible refine (shown_any _).mono ?_)
      rintro e w2 ⟨rfl, b2⟩
      have kf := k1.below b2 k1.lt
      have B := bthen B1 b2
      clear k1 b2 B1
      have r_0 := kf.cell 0
      have r_1 := kf.cell 1
      have r_2 := kf.cell 2
      have r_3 := kf.cell 3
      have r_4 := kf.cell 4
      simp [flashC] at r_0 r_1 r_2 r_3 r_4
      go_wp2_with (with_reducible refine (h1 _).mono ?_)
      rintro e w3 ⟨rfl, b⟩
      have kf3 := kf.below b kf.lt
      have B3 := bthen B b
      clear r_0 r_1 r_2 r_3 r_4
      clear kf B b
      have r_0 := kf3.cell 0
      have r_1 := kf3.cell 1
      have r_2 := kf3.cell 2
      have r_3 := kf3.cell 3
      have r_4 := kf3.cell 4
      simp [flashC] at r_0 r_1 r_2 r_3 r_4
      go_wp2_with (with_reducible refine (h2 _).mono ?_)
      rintro e w4 ⟨rfl, b⟩
      have kx4 := Blk.new w4 28 (flashC F1.a F1.b F1.x F1.y F1.l)
      have B4 := (bthen B3 b).alloc (bthen B3 b).size (.cells (flashC F1.a F1.b F1.x F1.y F1.l) 28)
      clear r_0 r_1 r_2 r_3 r_4
      clear kf3 B3 b
      have r_0 := kx4.cell 0
      have r_1 := kx4.cell 1
      have r_2 := kx4.cell 2
      have r_3 := kx4.cell 3
      have r_4 := kx4.cell 4
      simp [flashC] at r_0 r_1 r_2 r_3 r_4
      go_wp2_with (with_reducible refine (h3 _).mono ?_)
      rintro e w5 ⟨rfl, b⟩
      have B5 := bthen B4 b
      clear r_0 r_1 r_2 r_3 r_4
      clear kx4 B4 b
      go_wp2_with (first | ((with_reducible refine (h4 _).mono ?_); rintro e w6 ⟨rfl, b6⟩) | ((with_reducible refine (h5 _).mono ?_); rintro e w7 ⟨rfl, rfl⟩))
      go_ret
      exact ⟨rfl, bthen B5 b6⟩
    · rw [Bool.eq_false_iff.2 hB] at h5
      clear hB hbl
      generalize andB S d = X at *
      have k0 := Blk.new w 28 (flashC f.a f.b f.x f.y f.l)
      have B0 : Below w.heap.size w (w.alloc (.cells (flashC f.a f.b f.x f.y f.l) 28)) := (Below.refl _ w).alloc (Nat.le_refl _) _
      go_enter Try.func8, Try.ntmps8
      go_wp2_with (with_reducible refine (big_no f hf.ha hf.hb _).mono ?_)
      rintro e w1 ⟨rfl, b1⟩
      have k1 := k0.below b1 k0.lt
      have B1 := bthen B0 b1
      clear k0 b1 B0
      go_wp2_with (with_reducible refine (shown_any _).mono ?_)
      rintro e w2 ⟨rfl, b2⟩
      have kf := k1.below b2 k1.lt
      have B := bthen B1 b2
      clear k1 b2 B1
      have r_0 := kf.cell 0
      have r_1 := kf.cell 1
      have r_2 := kf.cell 2
      have r_3 := kf.cell 3
      have r_4 := kf.cell 4
      simp [flashC] at r_0 r_1 r_2 r_3 r_4
      go_wp2_with (with_reducible refine (h1 _).mono ?_)
      rintro e w3 ⟨rfl, b⟩
      have kf3 := kf.below b kf.lt
      have B3 := bthen B b
      clear r_0 r_1 r_2 r_3 r_4
      clear kf B b
      have r_0 := kf3.cell 0
      have r_1 := kf3.cell 1
      have r_2 := kf3.cell 2
      have r_3 := kf3.cell 3
      have r_4 := kf3.cell 4
      simp [flashC] at r_0 r_1 r_2 r_3 r_4
      go_wp2_with (with_reducible refine (h2 _).mono ?_)
      rintro e w4 ⟨rfl, b⟩
      have kx4 := Blk.new w4 28 (flashC F1.a F1.b F1.x F1.y F1.l)
      have B4 := (bthen B3 b).alloc (bthen B3 b).size (.cells (flashC F1.a F1.b F1.x F1.y F1.l) 28)
      clear r_0 r_1 r_2 r_3 r_4
      clear kf3 B3 b
      have r_0 := kx4.cell 0
      have r_1 := kx4.cell 1
      have r_2 := kx4.cell 2
      have r_3 := kx4.cell 3
      have r_4 := kx4.cell 4
      simp [flashC] at r_0 r_1 r_2 r_3 r_4
      go_wp2_with (with_reducible refine (h3 _).mono ?_)
      rintro e w5 ⟨rfl, b⟩
      have B5 := bthen B4 b
      clear r_0 r_1 r_2 r_3 r_4
      clear kx4 B4 b
      go_wp2_with (first | ((with_reducible refine (h4 _).mono ?_); rintro e w6 ⟨rfl, b6⟩) | ((with_reducible refine (h5 _).mono ?_); rintro e w7 ⟨rfl, rfl⟩))
      go_ret
      exact ⟨rfl, bthen B5 b6⟩
  · have hG : (pgE f k t d != 0) = true := by simpa using hE
    rw [pgF_bad hE] at h2 h3
    rcases sees_bad hE with ⟨e1, e2⟩ | ⟨e1, e2⟩
    · have hG2 : (rdE f k t d.size != 0) = true := by simpa using e1
      rw [e2] at h2 hG
      clear e1 e2 hE hG wt hk
      generalize rdS f k t d.size = S at *
      generalize rdE f k t d.size = E at *
      have k0 := Blk.new w 28 (flashC f.a f.b f.x f.y f.l)
      have B0 : Below w.heap.size w (w.alloc (.cells (flashC f.a f.b f.x f.y f.l) 28)) := (Below.refl _ w).alloc (Nat.le_refl _) _
      go_enter Try.func8, Try.ntmps8
      go_wp2_with (with_reducible refine (big_no f hf.ha hf.hb _).mono ?_)
      rintro e w1 ⟨rfl, b1⟩
      have k1 := k0.below b1 k0.lt
      have B1 := bthen B0 b1
      clear k0 b1 B0
      go_wp2_with (with_reducible refine (shown_any _).mono ?_)
      rintro e w2 ⟨rfl, b2⟩
      have kf := k1.below b2 k1.lt
      have B := bthen B1 b2
      clear k1 b2 B1
      have r_0 := kf.cell 0
      have r_1 := kf.cell 1
      have r_2 := kf.cell 2
      have r_3 := kf.cell 3
      have r_4 := kf.cell 4
      simp [flashC] at r_0 r_1 r_2 r_3 r_4
      go_wp2_with (with_reducible refine (h1 _).mono ?_)
      rintro e w3 ⟨rfl, b⟩
      have kf3 := kf.below b kf.lt
      have B3 := bthen B b
      clear r_0 r_1 r_2 r_3 r_4
      clear kf B b
      have r_0 := kf3.cell 0
      have r_1 := kf3.cell 1
      have r_2 := kf3.cell 2
      have r_3 := kf3.cell 3
      have r_4 := kf3.cell 4
      simp [flashC] at r_0 r_1 r_2 r_3 r_4
      go_wp2_with (with_reducible refine (h2 _).mono ?_)
      rintro e w4 ⟨rfl, b⟩
      have kx4 := Blk.new w4 28 (flashC f.a f.b f.x f.y f.l)
      have B4 := (bthen B3 b).alloc (bthen B3 b).size (.cells (flashC f.a f.b f.x f.y f.l) 28)
      clear r_0 r_1 r_2 r_3 r_4
      clear kf3 B3 b
      have r_0 := kx4.cell 0
      have r_1 := kx4.cell 1
      have r_2 := kx4.cell 2
      have r_3 := kx4.cell 3
      have r_4 := kx4.cell 4
      simp [flashC] at r_0 r_1 r_2 r_3 r_4
      go_wp2_with (with_reducible refine (h3 _).mono ?_)
      rintro e w5 ⟨rfl, b⟩
      have B5 := bthen B4 b
      clear r_0 r_1 r_2 r_3 r_4
      clear kx4 B4 b
      go_wp2
      go_ret
      exact ⟨rfl, B5⟩
    · rw [e2] at h2 hG
      rw [e1] at h1 h3
      clear e1 e2 hE hG wt hk
      generalize rdS f k t d.size = S at *
      have k0 := Blk.new w 28 (flashC f.a f.b f.x f.y f.l)
      have B0 : Below w.heap.size w (w.alloc (.cells (flashC f.a f.b f.x f.y f.l) 28)) := (Below.refl _ w).alloc (Nat.le_refl _) _
      go_enter Try.func8, Try.ntmps8
      go_wp2_with (with_reducible refine (big_no f hf.ha hf.hb _).mono ?_)
      rintro e w1 ⟨rfl, b1⟩
      have k1 := k0.below b1 k0.lt
      have B1 := bthen B0 b1
      clear k0 b1 B0
      go_wp2_with (with_reducible refine (shown_any _).mono ?_)
      rintro e w2 ⟨rfl, b2⟩
      have kf := k1.below b2 k1.lt
      have B := bthen B1 b2
      clear k1 b2 B1
      have r_0 := kf.cell 0
      have r_1 := kf.cell 1
      have r_2 := kf.cell 2
      have r_3 := kf.cell 3
      have r_4 := kf.cell 4
      simp [flashC] at r_0 r_1 r_2 r_3 r_4
      go_wp2_with (with_reducible refine (h1 _).mono ?_)
      rintro e w3 ⟨rfl, b⟩
      have kf3 := kf.below b kf.lt
      have B3 := bthen B b
      clear r_0 r_1 r_2 r_3 r_4
      clear kf B b
      have r_0 := kf3.cell 0
      have r_1 := kf3.cell 1
      have r_2 := kf3.cell 2
      have r_3 := kf3.cell 3
      have r_4 := kf3.cell 4
      simp [flashC] at r_0 r_1 r_2 r_3 r_4
      go_wp2_with (with_reducible refine (h2 _).mono ?_)
      rintro e w4 ⟨rfl, b⟩
      have kx4 := Blk.new w4 28 (flashC f.a f.b f.x f.y f.l)
      have B4 := (bthen B3 b).alloc (bthen B3 b).size (.cells (flashC f.a f.b f.x f.y f.l) 28)
      clear r_0 r_1 r_2 r_3 r_4
      clear kf3 B3 b
      have r_0 := kx4.cell 0
      have r_1 := kx4.cell 1
      have r_2 := kx4.cell 2
      have r_3 := kx4.cell 3
      have r_4 := kx4.cell 4
      simp [flashC] at r_0 r_1 r_2 r_3 r_4
      go_wp2_with (with_reducible refine (h3 _).mono ?_)
      rintro e w5 ⟨rfl, b⟩
      have B5 := bthen B4 b
      clear r_0 r_1 r_2 r_3 r_4
      clear kx4 B4 b
      go_wp2
      go_ret
      exact ⟨rfl, B5⟩

theorem FlashSees_walk (f : Fl) (k t : Int) (d : ByteArray) (wx : (Lit.int .i64 f.x).wf = true) (wy : (Lit.int .i64 f.y).wf = true) (wl : (Lit.int .i64 f.l).wf = true) (wa : f.a.size ≤ maxLen) (wb : f.b.size ≤ maxLen)
    (hk : (Lit.int .i64 k).wf = true) (ht : (Lit.int .i64 t).wf = true) (hd : d.size ≤ maxLen) (w : World) :
    Calls Try.prog 8 #[flV f, .int .i64 k, .int .i64 t, .string d] w fun e w' => e = .returned (.bool true) ∧ Below w.heap.size w w' := by
  by_cases h : (500 < f.a.size ∨ 500 < f.b.size) ∨ ((f.a.size ≤ 500 ∧ f.b.size ≤ 500) ∧ 500 < d.size)
  · exact sees_out f wa wb k t d hd h w
  · exact sees_in f ⟨wx, wy, wl, by omega, by omega⟩ k t d hk ht (by omega) w
end Go.Proofs.Ytcpcceeggjjifaa
