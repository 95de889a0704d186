/- The walk of the law RecordBack. -/
import Derived.Test.YtclhdgolcaacbaaRecShown
namespace Go.Proofs.Ytclhdgolcaacbaa
open Go.RowKit
set_option linter.unusedVariables false
set_option linter.unusedSimpArgs false

theorem u64_val (n : Int) (h : (Lit.int .u64 n).wf = true) : ∃ m : Nat, n = (m : Int) ∧ m < 18446744073709551616 := by
  have : 0 ≤ n ∧ n < 18446744073709551616 := by
    simp [Lit.wf, IntKind.min, IntKind.max, IntKind.signed, IntKind.bits] at h; omega
  exact ⟨n.toNat, by omega, by omega⟩

theorem dec_bounds (s : ByteArray) (h : decE s = 0) : decN s < 18446744073709551616 ∧ decD s < 18446744073709551616 ∧ (Lit.int .i64 (decK s : Int)).wf = true := by
  have hs := dec_size s h
  obtain ⟨h0, h1, h2, h3, hd⟩ := dec_facts s h
  have eK : decK s = (byteAt s 1).toNat := by unfold decK; rw [hd]
  have eN : decN s = getN (s.extract 2 10) := by unfold decN; rw [hd]
  have eD : decD s = getN (s.extract 10 18) := by unfold decD; rw [hd]
  refine ⟨by rw [eN]; exact get8 _ (ext_size s 2 10 (by omega) (by omega)), by rw [eD]; exact get8 _ (ext_size s 10 18 (by omega) (by omega)), ?_⟩
  rw [eK]
  have := (byteAt s 1).toNat_lt
  simp [Lit.wf, IntKind.min, IntKind.max, IntKind.signed, IntKind.bits]; omega

set_option maxHeartbeats 4000000 in
theorem back (k n d : Int) (s : ByteArray) (hk : (Lit.int .i64 k).wf = true) (hn : (Lit.int .u64 n).wf = true) (hd : (Lit.int .u64 d).wf = true) (hs : s.size ≤ maxLen) (w : World) :
    Calls Try.prog 5 #[.agg #[.int .i64 k, .int .u64 n, .int .u64 d], .string s] w fun e w' => e = .returned (.bool true) ∧ Below w.heap.size w w' := by
  obtain ⟨n, rfl, hn'⟩ := u64_val n hn
  obtain ⟨d, rfl, hd'⟩ := u64_val d hd
  clear hn hd
  have B0 : Below w.heap.size w (w.alloc (.cells #[.int .i64 k, .int .u64 (n : Int), .int .u64 (d : Int)] 24)) := (Below.refl _ w).alloc (Nat.le_refl _) _
  by_cases h100 : 100 < s.size
  · go_enter Try.func5, Try.ntmps5
    go_wp2_with (first | (with_reducible refine (shown_any _).mono ?_; rintro e w1 ⟨rfl, hb1⟩))
    go_ret
    exact ⟨rfl, bthen B0 hb1⟩
  · have d1 : decide (100 < (s.size : Int)) = false := by simp; omega
    clear h100
    have hz : (encB k n d).size ≤ maxLen := by rw [encB_size]; unfold maxLen; omega
    have hE : ∀ W, Calls Try.prog 12 #[.agg #[.int .i64 k, .int .u64 (n : Int), .int .u64 (d : Int)]] W fun e w' => e = .returned (.string (encB k n d)) ∧ Below W.heap.size W w' := fun W => Encode_any k n d hk hn' hd' W
    have kR := Blk.new w 24 #[.int .i64 k, .int .u64 (n : Int), .int .u64 (d : Int)]
    by_cases hkn : 1 ≤ k ∧ k ≤ 3
    · obtain ⟨g1, g2⟩ := hkn
      have hdec := dec_enc k n d g1 g2 hn' hd'
      have hD : ∀ W, Calls Try.prog 17 #[.string (encB k n d)] W fun e w' => e = .returned (.tuple #[.agg #[.int .i64 k, .int .u64 (n : Int), .int .u64 (d : Int)], .int .i64 0]) ∧ Below W.heap.size W w' := fun W => by
        have h := Decode_any (encB k n d) hz W
        rw [decV_of hdec, Int.toNat_of_nonneg (by omega)] at h; exact h
      obtain ⟨X, hX⟩ : ∃ X, X = encB k n d := ⟨_, rfl⟩
      rw [← hX] at hE hD
      clear hX hdec hz
      go_enter Try.func5, Try.ntmps5
      go_wp2_with (with_reducible refine (shown_any _).mono ?_)
      rintro e w1 ⟨rfl, b1⟩
      have k1 := kR.below b1 kR.lt
      have B1 := bthen B0 b1
      clear kR B0 b1
      have r0 := k1.cell 0
      have r1 := k1.cell 1
      have r2 := k1.cell 2
      go_wp2_with (with_reducible refine (hE _).mono ?_)
      rintro e w2 ⟨rfl, b2⟩
      have k2 := k1.below b2 k1.lt
      have B2 := bthen B1 b2
      clear r0 r1 r2 k1 b2 B1
      go_wp2_with (with_reducible refine (hD _).mono ?_)
      rintro e w3 ⟨rfl, b3⟩
      have k3 := (k2.below b3 k2.lt).alloc (.cells #[.int .i64 k, .int .u64 (n : Int), .int .u64 (d : Int)] 24)
      have x3 := Blk.new w3 24 #[.int .i64 k, .int .u64 (n : Int), .int .u64 (d : Int)]
      have B3 : Below w.heap.size w (w3.alloc (.cells #[.int .i64 k, .int .u64 (n : Int), .int .u64 (d : Int)] 24)) := (bthen B2 b3).alloc (bthen B2 b3).size _
      clear k2 b3 B2
      have r0 := k3.cell 0
      have r1 := k3.cell 1
      have r2 := k3.cell 2
      have x0 := x3.cell 0
      have x1 := x3.cell 1
      have x2 := x3.cell 2
      have hS := fun W => Decode_any s hs W
      unfold decV at hS
      by_cases hde : decE s = 0
      · have hed := Lib.hid (enc_dec s hde)
        obtain ⟨q1, q2, q3⟩ := dec_bounds s hde
        have hEs := fun W => Encode_any (decK s : Int) (decN s) (decD s) q3 q1 q2 W
        rw [hed.out] at hEs
        rw [hde] at hS
        obtain ⟨K2, hK2⟩ : ∃ E, E = decK s := ⟨_, rfl⟩
        obtain ⟨N2, hN2⟩ : ∃ E, E = decN s := ⟨_, rfl⟩
        obtain ⟨D2, hD2⟩ : ∃ E, E = decD s := ⟨_, rfl⟩
        rw [← hK2, ← hN2, ← hD2] at hS hEs
        have hS' : ∀ W, Calls Try.prog 17 #[.string s] W fun e w' => e = .returned (.tuple #[.agg #[.int .i64 (K2 : Int), .int .u64 (N2 : Int), .int .u64 (D2 : Int)], .int .i64 0]) ∧ Below W.heap.size W w' := hS
        have hEs' : ∀ W, Calls Try.prog 12 #[.agg #[.int .i64 (K2 : Int), .int .u64 (N2 : Int), .int .u64 (D2 : Int)]] W fun e w' => e = .returned (.string s) ∧ Below W.heap.size W w' := hEs
        clear hK2 hN2 hD2 hS hEs hde hed q1 q2 q3
        go_wp2_with (first | (with_reducible refine (hS' _).mono ?_; rintro e w4 ⟨rfl, b4⟩) | (with_reducible refine (hEs' _).mono ?_; rintro e w5 ⟨rfl, b5⟩))
        go_ret
        exact ⟨rfl, bthen ((bthen B3 b4).alloc (bthen B3 b4).size _) b5⟩
      · obtain ⟨E2, hE2⟩ : ∃ E, E = decE s := ⟨_, rfl⟩
        rw [← hE2] at hS hde
        have g4 : (E2 != 0) = true := by simpa using hde
        clear hE2
        go_wp2_with (first | (with_reducible refine (hS _).mono ?_; rintro e w4 ⟨rfl, b4⟩))
        go_ret
        exact ⟨rfl, (bthen B3 b4).alloc (bthen B3 b4).size _⟩
    · have hV := fun W => Decode_any (encB k n d) hz W
      unfold decV at hV
      obtain ⟨E1, hE1⟩ : ∃ E, E = decE (encB k n d) := ⟨_, rfl⟩
      obtain ⟨K1, hK1⟩ : ∃ E, E = decK (encB k n d) := ⟨_, rfl⟩
      obtain ⟨N1, hN1⟩ : ∃ E, E = decN (encB k n d) := ⟨_, rfl⟩
      obtain ⟨D1, hD1⟩ : ∃ E, E = decD (encB k n d) := ⟨_, rfl⟩
      rw [← hE1, ← hK1, ← hN1, ← hD1] at hV
      clear hE1 hK1 hN1 hD1
      have hV' : ∀ W, Calls Try.prog 17 #[.string (encB k n d)] W fun e w' => e = .returned (.tuple #[.agg #[.int .i64 (K1 : Int), .int .u64 (N1 : Int), .int .u64 (D1 : Int)], .int .i64 E1]) ∧ Below W.heap.size W w' := hV
      obtain ⟨X, hX⟩ : ∃ X, X = encB k n d := ⟨_, rfl⟩
      rw [← hX] at hE hV'
      clear hX hz hV
      have hkc : k < 1 ∨ (1 ≤ k ∧ 3 < k) := by omega
      clear hkn
      rcases hkc with g1 | ⟨g1, g2⟩
      all_goals
        go_enter Try.func5, Try.ntmps5
        go_wp2_with (with_reducible refine (shown_any _).mono ?_)
        rintro e w1 ⟨rfl, b1⟩
        have k1 := kR.below b1 kR.lt
        have B1 := bthen B0 b1
        clear kR B0 b1
        have r0 := k1.cell 0
        have r1 := k1.cell 1
        have r2 := k1.cell 2
        go_wp2_with (with_reducible refine (hE _).mono ?_)
        rintro e w2 ⟨rfl, b2⟩
        have k2 := k1.below b2 k1.lt
        have B2 := bthen B1 b2
        clear r0 r1 r2 k1 b2 B1
        go_wp2_with (with_reducible refine (hV' _).mono ?_)
        rintro e w3 ⟨rfl, b3⟩
        have k3 := (k2.below b3 k2.lt).alloc (.cells #[.int .i64 (K1 : Int), .int .u64 (N1 : Int), .int .u64 (D1 : Int)] 24)
        have B3 : Below w.heap.size w (w3.alloc (.cells #[.int .i64 (K1 : Int), .int .u64 (N1 : Int), .int .u64 (D1 : Int)] 24)) := (bthen B2 b3).alloc (bthen B2 b3).size _
        clear k2 b3 B2
        have r0 := k3.cell 0
        have r1 := k3.cell 1
        have r2 := k3.cell 2
        have hS := fun W => Decode_any s hs W
        unfold decV at hS
        by_cases hde : decE s = 0
        · have hed := Lib.hid (enc_dec s hde)
          obtain ⟨q1, q2, q3⟩ := dec_bounds s hde
          have hEs := fun W => Encode_any (decK s : Int) (decN s) (decD s) q3 q1 q2 W
          rw [hed.out] at hEs
          rw [hde] at hS
          obtain ⟨K2, hK2⟩ : ∃ E, E = decK s := ⟨_, rfl⟩
          obtain ⟨N2, hN2⟩ : ∃ E, E = decN s := ⟨_, rfl⟩
          obtain ⟨D2, hD2⟩ : ∃ E, E = decD s := ⟨_, rfl⟩
          rw [← hK2, ← hN2, ← hD2] at hS hEs
          have hS' : ∀ W, Calls Try.prog 17 #[.string s] W fun e w' => e = .returned (.tuple #[.agg #[.int .i64 (K2 : Int), .int .u64 (N2 : Int), .int .u64 (D2 : Int)], .int .i64 0]) ∧ Below W.heap.size W w' := hS
          have hEs' : ∀ W, Calls Try.prog 12 #[.agg #[.int .i64 (K2 : Int), .int .u64 (N2 : Int), .int .u64 (D2 : Int)]] W fun e w' => e = .returned (.string s) ∧ Below W.heap.size W w' := hEs
          clear hK2 hN2 hD2 hS hEs hde hed q1 q2 q3
          go_wp2_with (first | (with_reducible refine (hS' _).mono ?_; rintro e w4 ⟨rfl, b4⟩) | (with_reducible refine (hEs' _).mono ?_; rintro e w5 ⟨rfl, b5⟩))
          go_ret
          exact ⟨rfl, bthen ((bthen B3 b4).alloc (bthen B3 b4).size _) b5⟩
        · obtain ⟨E2, hE2⟩ : ∃ E, E = decE s := ⟨_, rfl⟩
          rw [← hE2] at hS hde
          have g4 : (E2 != 0) = true := by simpa using hde
          clear hE2
          go_wp2_with (first | (with_reducible refine (hS _).mono ?_; rintro e w4 ⟨rfl, b4⟩))
          go_ret
          exact ⟨rfl, (bthen B3 b4).alloc (bthen B3 b4).size _⟩
end Go.Proofs.Ytclhdgolcaacbaa
