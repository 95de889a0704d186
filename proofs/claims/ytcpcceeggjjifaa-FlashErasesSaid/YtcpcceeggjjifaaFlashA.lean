/- The walks of the laws FlashParts, FlashTwice. -/
import Derived.Test.YtcpcceeggjjifaaFlashL
import Derived.Test.YtcpcceeggjjifaaFlashP
import Derived.Test.YtcpcceeggjjifaaOpenFlash
namespace Go.Proofs.Ytcpcceeggjjifaa
open Go.RowKit
set_option linter.unusedVariables false
set_option linter.unusedSimpArgs false

theorem rdS_size {f : Fl} (hf : f.ok) (k t n : Int) : (rdS f k t n).size ≤ 500 := by
  have := hf.bank k
  unfold rdS; split
  · rw [ByteArray.size_extract]; omega
  · exact Nat.zero_le _


theorem parts_out (f : Fl) (h : 500 < f.a.size ∨ 500 < f.b.size) (ha : f.a.size ≤ maxLen) (hb : f.b.size ≤ maxLen) (k t n m : Int) (w : World) :
    Calls Try.prog 7 #[flV f, .int .i64 k, .int .u8 t, .int .u8 n, .int .u8 m] w fun e w' => e = .returned (.bool true) ∧ Below w.heap.size w w' := by
  go_enter Try.func7, Try.ntmps7
  go_wp2_with (first | (with_reducible refine (big_yes f h ha hb _).mono ?_; rintro e w1 ⟨rfl, b1⟩) | (with_reducible refine (shown_any _).mono ?_; rintro e w2 ⟨rfl, b2⟩))
  go_ret
  exact ⟨rfl, bthen (bthen ((Below.refl _ w).alloc (Nat.le_refl _) _) b1) b2⟩

set_option maxHeartbeats 2000000 in
theorem parts_in (f : Fl) (hf : f.ok) (k : Int) (hk : (Lit.int .i64 k).wf = true) (t n m : Nat) (ht : t < 256) (hn : n < 256) (hm : m < 256) (w : World) :
    Calls Try.prog 7 #[flV f, .int .i64 k, .int .u8 (t : Int), .int .u8 (n : Int), .int .u8 (m : Int)] w fun e w' => e = .returned (.bool true) ∧ Below w.heap.size w w' := by
  have wf : ∀ j : Int, 0 ≤ j → j ≤ 1000 → (Lit.int .i64 j).wf = true := fun j h1 h2 => by simp [Lit.wf, IntKind.min, IntKind.max, IntKind.signed, IntKind.bits]; omega
  have h1 := Read_any f hf k t ((n : Int) + (m : Int)) hk (wf _ (by omega) (by omega)) (wf _ (by omega) (by omega))
  have h2 := Read_any f hf k t n hk (wf _ (by omega) (by omega)) (wf _ (by omega) (by omega))
  have h3 := Read_any f hf k ((t : Int) + (n : Int)) m hk (wf _ (by omega) (by omega)) (wf _ (by omega) (by omega))
  have z2 := rdS_size hf k t n
  have z3 := rdS_size hf k (t + n) m
  by_cases hE : rdE f k t (n + m) = 0
  · obtain ⟨e2, e3, eS⟩ := parts_ok hE
    rw [hE, eS] at h1
    rw [e2] at h2
    rw [e3] at h3
    clear hE e2 e3 eS wf
    generalize rdS f k t n = S2 at *
    generalize rdS f k (t + n) m = S3 at *
    have k0 := Blk.new w 28 (flashC f.a f.b f.x f.y f.l)
    have B0 : Below w.heap.size w (w.alloc (.cells (flashC f.a f.b f.x f.y f.l) 28)) := (Below.refl _ w).alloc (Nat.le_refl _) _
    go_enter Try.func7, Try.ntmps7
    go_wp2_with (with_reducible refine (big_no f hf.ha hf.hb _).mono ?_)
    rintro e w1 ⟨rfl, b1⟩
    have k1 := k0.below b1 k0.lt
    have B1 := bthen B0 b1
    clear k0 b1 B0
    go_wp2_with (with_reducible refine (shown_any _).mono ?_)
    rintro e w2 ⟨rfl, b2⟩
    have kf := k1.below b2 k1.lt
    have B := bthen B1 b2
    clear k1 b2 B1
    have r0 := kf.cell 0
    have r1 := kf.cell 1
    have r2 := kf.cell 2
    have r3 := kf.cell 3
    have r4 := kf.cell 4
    simp [flashC] at r0 r1 r2 r3 r4
    go_wp2_with (with_reducible refine (h1 _).mono ?_)
    rintro e w3 ⟨rfl, b⟩
    replace kf := kf.below b kf.lt
    replace B := bthen B b
    clear r0 r1 r2 r3 r4 b
    have r0 := kf.cell 0
    have r1 := kf.cell 1
    have r2 := kf.cell 2
    have r3 := kf.cell 3
    have r4 := kf.cell 4
    simp [flashC] at r0 r1 r2 r3 r4
    go_wp2_with (with_reducible refine (h2 _).mono ?_)
    rintro e w4 ⟨rfl, b⟩
    replace kf := kf.below b kf.lt
    replace B := bthen B b
    clear r0 r1 r2 r3 r4 b
    have r0 := kf.cell 0
    have r1 := kf.cell 1
    have r2 := kf.cell 2
    have r3 := kf.cell 3
    have r4 := kf.cell 4
    simp [flashC] at r0 r1 r2 r3 r4
    go_wp2_with (with_reducible refine (h3 _).mono ?_)
    rintro e w5 ⟨rfl, b⟩
    replace kf := kf.below b kf.lt
    replace B := bthen B b
    clear r0 r1 r2 r3 r4 b
    go_wp2
    go_ret
    exact ⟨rfl, B⟩
  · obtain ⟨eS, e23⟩ := parts_bad hE
    rw [eS] at h1
    have n1 : (rdE f k t (n + m) != 0) = true := by simpa using hE
    by_cases hG : rdE f k t n = 0
    · have hH : rdE f k (t + n) m ≠ 0 := by rcases e23 with h | h; exact absurd hG h; exact h
      have n2 : (rdE f k (t + n) m != 0) = true := by simpa using hH
      rw [hG] at h2
      clear hE hG hH e23 eS wf
      generalize rdS f k t n = S2 at *
      generalize rdS f k (t + n) m = S3 at *
      generalize rdE f k t (n + m) = E1 at *
      generalize rdE f k (t + n) m = E3 at *
      have k0 := Blk.new w 28 (flashC f.a f.b f.x f.y f.l)
      have B0 : Below w.heap.size w (w.alloc (.cells (flashC f.a f.b f.x f.y f.l) 28)) := (Below.refl _ w).alloc (Nat.le_refl _) _
      go_enter Try.func7, Try.ntmps7
      go_wp2_with (with_reducible refine (big_no f hf.ha hf.hb _).mono ?_)
      rintro e w1 ⟨rfl, b1⟩
      have k1 := k0.below b1 k0.lt
      have B1 := bthen B0 b1
      clear k0 b1 B0
      go_wp2_with (with_reducible refine (shown_any _).mono ?_)
      rintro e w2 ⟨rfl, b2⟩
      have kf := k1.below b2 k1.lt
      have B := bthen B1 b2
      clear k1 b2 B1
      have r0 := kf.cell 0
      have r1 := kf.cell 1
      have r2 := kf.cell 2
      have r3 := kf.cell 3
      have r4 := kf.cell 4
      simp [flashC] at r0 r1 r2 r3 r4
      go_wp2_with (with_reducible refine (h1 _).mono ?_)
      rintro e w3 ⟨rfl, b⟩
      replace kf := kf.below b kf.lt
      replace B := bthen B b
      clear r0 r1 r2 r3 r4 b
      have r0 := kf.cell 0
      have r1 := kf.cell 1
      have r2 := kf.cell 2
      have r3 := kf.cell 3
      have r4 := kf.cell 4
      simp [flashC] at r0 r1 r2 r3 r4
      go_wp2_with (with_reducible refine (h2 _).mono ?_)
      rintro e w4 ⟨rfl, b⟩
      replace kf := kf.below b kf.lt
      replace B := bthen B b
      clear r0 r1 r2 r3 r4 b
      have r0 := kf.cell 0
      have r1 := kf.cell 1
      have r2 := kf.cell 2
      have r3 := kf.cell 3
      have r4 := kf.cell 4
      simp [flashC] at r0 r1 r2 r3 r4
      go_wp2_with (with_reducible refine (h3 _).mono ?_)
      rintro e w5 ⟨rfl, b⟩
      replace kf := kf.below b kf.lt
      replace B := bthen B b
      clear r0 r1 r2 r3 r4 b
      go_wp2
      go_ret
      exact ⟨rfl, B⟩
    · have n2 : (rdE f k t n != 0) = true := by simpa using hG
      clear hE hG e23 eS wf
      generalize rdS f k t n = S2 at *
      generalize rdS f k (t + n) m = S3 at *
      generalize rdE f k t (n + m) = E1 at *
      generalize rdE f k t n = E2 at *
      generalize rdE f k (t + n) m = E3 at *
      have k0 := Blk.new w 28 (flashC f.a f.b f.x f.y f.l)
      have B0 : Below w.heap.size w (w.alloc (.cells (flashC f.a f.b f.x f.y f.l) 28)) := (Below.refl _ w).alloc (Nat.le_refl _) _
      go_enter Try.func7, Try.ntmps7
      go_wp2_with (with_reducible refine (big_no f hf.ha hf.hb _).mono ?_)
      rintro e w1 ⟨rfl, b1⟩
      have k1 := k0.below b1 k0.lt
      have B1 := bthen B0 b1
      clear k0 b1 B0
      go_wp2_with (with_reducible refine (shown_any _).mono ?_)
      rintro e w2 ⟨rfl, b2⟩
      have kf := k1.below b2 k1.lt
      have B := bthen B1 b2
      clear k1 b2 B1
      have r0 := kf.cell 0
      have r1 := kf.cell 1
      have r2 := kf.cell 2
      have r3 := kf.cell 3
      have r4 := kf.cell 4
      simp [flashC] at r0 r1 r2 r3 r4
      go_wp2_with (with_reducible refine (h1 _).mono ?_)
      rintro e w3 ⟨rfl, b⟩
      replace kf := kf.below b kf.lt
      replace B := bthen B b
      clear r0 r1 r2 r3 r4 b
      have r0 := kf.cell 0
      have r1 := kf.cell 1
      have r2 := kf.cell 2
      have r3 := kf.cell 3
      have r4 := kf.cell 4
      simp [flashC] at r0 r1 r2 r3 r4
      go_wp2_with (with_reducible refine (h2 _).mono ?_)
      rintro e w4 ⟨rfl, b⟩
      replace kf := kf.below b kf.lt
      replace B := bthen B b
      clear r0 r1 r2 r3 r4 b
      have r0 := kf.cell 0
      have r1 := kf.cell 1
      have r2 := kf.cell 2
      have r3 := kf.cell 3
      have r4 := kf.cell 4
      simp [flashC] at r0 r1 r2 r3 r4
      go_wp2_with (with_reducible refine (h3 _).mono ?_)
      rintro e w5 ⟨rfl, b⟩
      replace kf := kf.below b kf.lt
      replace B := bthen B b
      clear r0 r1 r2 r3 r4 b
      go_wp2
      go_ret
      exact ⟨rfl, B⟩

theorem u8_nat (n : Int) (h : (Lit.int .u8 n).wf = true) : ∃ m : Nat, n = (m : Int) ∧ m < 256 := by
  simp [Lit.wf, IntKind.min, IntKind.max, IntKind.signed, IntKind.bits] at h
  exact ⟨n.toNat, by omega, by omega⟩

theorem FlashParts_walk (f : Fl) (k t n m : Int) (wx : (Lit.int .i64 f.x).wf = true) (wy : (Lit.int .i64 f.y).wf = true) (wl : (Lit.int .i64 f.l).wf = true) (wa : f.a.size ≤ maxLen) (wb : f.b.size ≤ maxLen)
    (hk : (Lit.int .i64 k).wf = true) (ht : (Lit.int .u8 t).wf = true) (hn : (Lit.int .u8 n).wf = true) (hm : (Lit.int .u8 m).wf = true) (w : World) :
    Calls Try.prog 7 #[flV f, .int .i64 k, .int .u8 t, .int .u8 n, .int .u8 m] w fun e w' => e = .returned (.bool true) ∧ Below w.heap.size w w' := by
  by_cases h : 500 < f.a.size ∨ 500 < f.b.size
  · exact parts_out f h wa wb k t n m w
  · obtain ⟨t, rfl, gt⟩ := u8_nat t ht
    obtain ⟨n, rfl, gn⟩ := u8_nat n hn
    obtain ⟨m, rfl, gm⟩ := u8_nat m hm
    exact parts_in f ⟨wx, wy, wl, by omega, by omega⟩ k hk t n m gt gn gm w
end Go.Proofs.Ytcpcceeggjjifaa
