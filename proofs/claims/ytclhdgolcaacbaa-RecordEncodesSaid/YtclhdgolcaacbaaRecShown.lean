/- The record laws' shown: it returns true. -/
import Derived.Test.YtclhdgolcaacbaaRecMath
import Derived.Test.YtclhdgolcaacbaaCalm
namespace Go.Proofs.Ytclhdgolcaacbaa
open Go.RowKit
set_option linter.unusedVariables false
set_option linter.unusedSimpArgs false

theorem enc_lit : encB 2 7 9 = ⟨#[165, 2, 0, 0, 0, 0, 0, 0, 0, 7, 0, 0, 0, 0, 0, 0, 0, 9, 177, 181, 77, 185, 90, 60]⟩ := by decide +kernel
theorem Mark_any (w : World) : Calls Try.prog 14 #[] w fun e w' => e = .returned (.string ⟨#[90, 60]⟩) ∧ w = w' := by
  go_enter Try.func14, Try.ntmps14
  go_wp2
  go_ret
  exact ⟨rfl, rfl⟩

theorem decV_of {s : ByteArray} {k n d : Nat} {E : Int} (h : dec s = (k, n, d, E)) : decV s = .tuple #[recV (k : Int) n d, .int .i64 E] := by
  unfold decV decK decN decD decE; rw [h]

set_option maxRecDepth 100000 in
set_option maxHeartbeats 2000000 in
theorem shown_any (w : World) : Calls Try.prog 16 #[] w fun e w' => e = .returned (.bool true) ∧ Below w.heap.size w w' := by
  obtain ⟨L, hL⟩ : ∃ L : ByteArray, L = ⟨#[165, 2, 0, 0, 0, 0, 0, 0, 0, 7, 0, 0, 0, 0, 0, 0, 0, 9, 177, 181, 77, 185, 90, 60]⟩ := ⟨_, rfl⟩
  have hsz : L.size = 24 := by rw [hL]; rfl
  have q0 : L[0]'(by omega) = 165 := by subst hL; rfl
  have q9 : L[9]'(by omega) = 7 := by subst hL; rfl
  have q17 : L[17]'(by omega) = 9 := by subst hL; rfl
  have q22 : L.extract 22 24 = ⟨#[90, 60]⟩ := by subst hL; decide
  have hEnc : ∀ W, Calls Try.prog 12 #[.agg #[.int .i64 2, .int .u64 7, .int .u64 9]] W fun e w' => e = .returned (.string L) ∧ Below W.heap.size W w' := fun W => by
    rw [hL, ← enc_lit]; exact Encode_any 2 7 9 (by decide) (by decide) (by decide) W
  have hm : L.size ≤ maxLen := by rw [hsz]; unfold maxLen; omega
  have hdL : dec L = (2, 7, 9, 0) := by rw [hL, ← enc_lit]; exact dec_enc 2 7 9 (by decide) (by decide) (by decide) (by decide)
  have hD1 : ∀ W, Calls Try.prog 17 #[.string L] W fun e w' => e = .returned (.tuple #[.agg #[.int .i64 2, .int .u64 7, .int .u64 9], .int .i64 0]) ∧ Below W.heap.size W w' := fun W => by
    have h := Decode_any L hm W
    rw [decV_of hdL] at h; exact h
  have hGd : ∀ W, Calls Try.prog 19 #[.string L] W fun e w' => e = .returned (.bool true) ∧ Below W.heap.size W w' := fun W => by
    have h := Good_any L hm W
    have hg : goodB L = true := by unfold goodB decE; rw [hdL]; rfl
    rw [hg] at h; exact h
  have hdB := dec_body 2 7 9 ⟨#[255, 255]⟩ rfl (by decide) (by decide) (by decide) (by decide)
  rw [if_neg (by decide)] at hdB
  obtain ⟨X, hX⟩ : ∃ X, X = bodyB 2 7 9 := ⟨_, rfl⟩
  have hXs : X.size = 22 := by rw [hX]; exact bodyB_size _ _ _
  have hBd : ∀ W, Calls Try.prog 10 #[.agg #[.int .i64 2, .int .u64 7, .int .u64 9]] W fun e w' => e = .returned (.string X) ∧ Below W.heap.size W w' := fun W => by
    rw [hX]; exact Body_any 2 7 9 (by decide) (by decide) (by decide) W
  rw [← hX] at hdB
  have hm2 : (X ++ ⟨#[255, 255]⟩).size ≤ maxLen := by rw [ByteArray.size_append, hXs]; decide
  have hD2 : ∀ W, Calls Try.prog 17 #[.string (X ++ ⟨#[255, 255]⟩)] W fun e w' => e = .returned (.tuple #[.agg #[.int .i64 0, .int .u64 0, .int .u64 0], .int .i64 9]) ∧ Below W.heap.size W w' := fun W => by
    have h := Decode_any _ hm2 W
    rw [decV_of hdB] at h; exact h
  have hdF : dec ⟨#[255, 255, 255, 255, 255, 255, 255, 255, 255, 255, 255, 255, 255, 255, 255, 255, 255, 255, 255, 255, 255, 255, 255, 255]⟩ = (0, 0, 0, 5) := by decide +kernel
  have hD3 : ∀ W, Calls Try.prog 17 #[.string ⟨#[255, 255, 255, 255, 255, 255, 255, 255, 255, 255, 255, 255, 255, 255, 255, 255, 255, 255, 255, 255, 255, 255, 255, 255]⟩] W fun e w' => e = .returned (.tuple #[.agg #[.int .i64 0, .int .u64 0, .int .u64 0], .int .i64 5]) ∧ Below W.heap.size W w' := fun W => by
    have h := Decode_any ⟨#[255, 255, 255, 255, 255, 255, 255, 255, 255, 255, 255, 255, 255, 255, 255, 255, 255, 255, 255, 255, 255, 255, 255, 255]⟩ (by decide) W
    rw [decV_of hdF] at h; exact h
  clear hL hX hdL hdB hdF hm hm2
  go_enter Try.func16, Try.ntmps16
  go_wp2_with (with_reducible refine (hEnc _).mono ?_)
  rintro e w1 ⟨rfl, b1⟩
  have kR := (Blk.new w 24 #[.int .i64 2, .int .u64 7, .int .u64 9]).below b1 (by simp)
  have B1 : Below w.heap.size w w1 := ((Below.refl _ w).alloc (Nat.le_refl _) _).trans (b1.mono (by simp))
  clear b1
  go_wp2_with (with_reducible refine (hD1 _).mono ?_)
  rintro e w2 ⟨rfl, b2⟩
  have kR2 := (kR.below b2 kR.lt).alloc (.cells #[.int .i64 2, .int .u64 7, .int .u64 9] 24)
  have kD := Blk.new w2 24 #[.int .i64 2, .int .u64 7, .int .u64 9]
  have B2 : Below w.heap.size w (w2.alloc (.cells #[.int .i64 2, .int .u64 7, .int .u64 9] 24)) := (bthen B1 b2).alloc (bthen B1 b2).size _
  clear kR b2 B1
  have r0 := kR2.cell 0
  have r1 := kR2.cell 1
  have r2 := kR2.cell 2
  go_wp2_with (with_reducible refine (hBd _).mono ?_)
  rintro e w4 ⟨rfl, b4⟩
  have kR4 := kR2.below b4 kR2.lt
  have kD4 := kD.below b4 kD.lt
  have B4 := bthen B2 b4
  clear r0 r1 r2 kR2 kD B2 b4
  go_wp2_with (with_reducible refine (hD2 _).mono ?_)
  rintro e w5 ⟨rfl, b5⟩
  have kR5 := (kR4.below b5 kR4.lt).alloc (.cells #[.int .i64 0, .int .u64 0, .int .u64 0] 24)
  have kD5 := (kD4.below b5 kD4.lt).alloc (.cells #[.int .i64 0, .int .u64 0, .int .u64 0] 24)
  have B5 : Below w.heap.size w (w5.alloc (.cells #[.int .i64 0, .int .u64 0, .int .u64 0] 24)) := (bthen B4 b5).alloc (bthen B4 b5).size _
  clear kR4 kD4 B4 b5
  go_wp2_with (with_reducible refine (hD3 _).mono ?_)
  rintro e w6 ⟨rfl, b6⟩
  have kR6 := (kR5.below b6 kR5.lt).alloc (.cells #[.int .i64 0, .int .u64 0, .int .u64 0] 24)
  have kD6 := (kD5.below b6 kD5.lt).alloc (.cells #[.int .i64 0, .int .u64 0, .int .u64 0] 24)
  have B6 : Below w.heap.size w (w6.alloc (.cells #[.int .i64 0, .int .u64 0, .int .u64 0] 24)) := (bthen B5 b6).alloc (bthen B5 b6).size _
  clear kR5 kD5 B5 b6
  go_wp2_with fail
  generalize w6.alloc (.cells #[.int .i64 0, .int .u64 0, .int .u64 0] 24) = w7 at *
  have r0 : ∀ m : CalmW w7.heap.size w7, _ := fun m => (kR6.below m.below kR6.lt).cell 0
  have r1 : ∀ m : CalmW w7.heap.size w7, _ := fun m => (kR6.below m.below kR6.lt).cell 1
  have r2 : ∀ m : CalmW w7.heap.size w7, _ := fun m => (kR6.below m.below kR6.lt).cell 2
  have d0 : ∀ m : CalmW w7.heap.size w7, _ := fun m => (kD6.below m.below kD6.lt).cell 0
  have d1 : ∀ m : CalmW w7.heap.size w7, _ := fun m => (kD6.below m.below kD6.lt).cell 1
  have d2 : ∀ m : CalmW w7.heap.size w7, _ := fun m => (kD6.below m.below kD6.lt).cell 2
  (refine wp_region_calm (w7.heap.size) (by kernel_rfl) (by kernel_rfl) ?_; (repeat (go_big_quiet_step ((first | (with_reducible refine calm_same (Mark_any _)) | (with_reducible refine calm_of (Nat.le_refl _) (hGd _)))))); refine wpQuiet_nil ?_; intro W5 hw'; obtain ⟨⟨_, hW5⟩, hw''⟩ := hw'; subst hw'')
  go_wp2
  go_ret
  exact ⟨rfl, B6.trans (hW5.mono B6.size)⟩
end Go.Proofs.Ytclhdgolcaacbaa
