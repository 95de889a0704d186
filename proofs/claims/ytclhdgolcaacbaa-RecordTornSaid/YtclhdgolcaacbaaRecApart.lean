/- The walk of the law RecordApart. -/
import Derived.Test.YtclhdgolcaacbaaRecBack
namespace Go.Proofs.Ytclhdgolcaacbaa
open Go.RowKit
set_option linter.unusedVariables false
set_option linter.unusedSimpArgs false

theorem enc_inj {k k' : Int} {n d n' d' : Nat} (h1 : 1 ≤ k) (h3 : k ≤ 3) (hn : n < 18446744073709551616) (hd : d < 18446744073709551616) (h1' : 1 ≤ k') (h3' : k' ≤ 3) (hn' : n' < 18446744073709551616) (hd' : d' < 18446744073709551616)
    (h : encB k n d = encB k' n' d') : k = k' ∧ n = n' ∧ d = d' := by
  have e := dec_enc k n d h1 h3 hn hd
  rw [h, dec_enc k' n' d' h1' h3' hn' hd'] at e
  simp only [Prod.mk.injEq] at e
  exact ⟨by omega, e.2.1.symm, e.2.2.1.symm⟩

theorem toList_ne {s t : ByteArray} (h : s = t → False) : (s.toList == t.toList) = false := by
  rw [toList_data, toList_data, beq_eq_false_iff_ne]; exact fun e => h (bytes_list e)

theorem apart_out (k n d k' n' d' : Int) (h : k < 1 ∨ (1 ≤ k ∧ 3 < k) ∨ (1 ≤ k ∧ k ≤ 3 ∧ k' < 1) ∨ (1 ≤ k ∧ k ≤ 3 ∧ 1 ≤ k' ∧ 3 < k')) (w : World) :
    Calls Try.prog 9 #[.agg #[.int .i64 k, .int .u64 n, .int .u64 d], .agg #[.int .i64 k', .int .u64 n', .int .u64 d']] w fun e w' => e = .returned (.bool true) ∧ Below w.heap.size w w' := by
  have B0 : Below w.heap.size w ((w.alloc (.cells #[.int .i64 k, .int .u64 n, .int .u64 d] 24)).alloc (.cells #[.int .i64 k', .int .u64 n', .int .u64 d'] 24)) := ((Below.refl _ w).alloc (Nat.le_refl _) _).alloc (by simp) _
  rcases h with g1 | ⟨g1, g2⟩ | ⟨g1, g2, g3⟩ | ⟨g1, g2, g3, g4⟩
  all_goals
    go_enter Try.func9, Try.ntmps9
    go_wp2_with (first | (with_reducible refine (shown_any _).mono ?_; rintro e w1 ⟨rfl, hb1⟩))
    go_ret
    exact ⟨rfl, bthen B0 hb1⟩

set_option maxHeartbeats 4000000 in
theorem apart_in (k : Int) (n d : Nat) (k' : Int) (n' d' : Nat) (g1 : 1 ≤ k) (g2 : k ≤ 3) (g3 : 1 ≤ k') (g4 : k' ≤ 3) (hn : n < 18446744073709551616) (hd : d < 18446744073709551616) (hn' : n' < 18446744073709551616) (hd' : d' < 18446744073709551616) (w : World) :
    Calls Try.prog 9 #[.agg #[.int .i64 k, .int .u64 (n : Int), .int .u64 (d : Int)], .agg #[.int .i64 k', .int .u64 (n' : Int), .int .u64 (d' : Int)]] w fun e w' => e = .returned (.bool true) ∧ Below w.heap.size w w' := by
  have B0 : Below w.heap.size w ((w.alloc (.cells #[.int .i64 k, .int .u64 n, .int .u64 d] 24)).alloc (.cells #[.int .i64 k', .int .u64 n', .int .u64 d'] 24)) := ((Below.refl _ w).alloc (Nat.le_refl _) _).alloc (by simp) _
  have kA := (Blk.new w 24 #[.int .i64 k, .int .u64 (n : Int), .int .u64 (d : Int)]).alloc (.cells #[.int .i64 k', .int .u64 (n' : Int), .int .u64 (d' : Int)] 24)
  have kB := Blk.new (w.alloc (.cells #[.int .i64 k, .int .u64 (n : Int), .int .u64 (d : Int)] 24)) 24 #[.int .i64 k', .int .u64 (n' : Int), .int .u64 (d' : Int)]
  rw [World.size_alloc] at kB
  have hk : (Lit.int .i64 k).wf = true := by simp [Lit.wf, IntKind.min, IntKind.max, IntKind.signed, IntKind.bits]; omega
  have hk' : (Lit.int .i64 k').wf = true := by simp [Lit.wf, IntKind.min, IntKind.max, IntKind.signed, IntKind.bits]; omega
  have hEA : ∀ W, Calls Try.prog 12 #[.agg #[.int .i64 k, .int .u64 (n : Int), .int .u64 (d : Int)]] W fun e w' => e = .returned (.string (encB k n d)) ∧ Below W.heap.size W w' := fun W => Encode_any k n d hk hn hd W
  have hEB : ∀ W, Calls Try.prog 12 #[.agg #[.int .i64 k', .int .u64 (n' : Int), .int .u64 (d' : Int)]] W fun e w' => e = .returned (.string (encB k' n' d')) ∧ Below W.heap.size W w' := fun W => Encode_any k' n' d' hk' hn' hd' W
  have hBA : ∀ W, Calls Try.prog 10 #[.agg #[.int .i64 k, .int .u64 (n : Int), .int .u64 (d : Int)]] W fun e w' => e = .returned (.string (bodyB k n d)) ∧ Below W.heap.size W w' := fun W => Body_any k n d hk hn hd W
  have hBB : ∀ W, Calls Try.prog 10 #[.agg #[.int .i64 k', .int .u64 (n' : Int), .int .u64 (d' : Int)]] W fun e w' => e = .returned (.string (bodyB k' n' d')) ∧ Below W.heap.size W w' := fun W => Body_any k' n' d' hk' hn' hd' W
  have hE : ∀ h : encB k n d = encB k' n' d', k = k' ∧ n = n' ∧ d = d' := fun h => enc_inj g1 g2 hn hd g3 g4 hn' hd' h
  have hB : ∀ h : bodyB k n d = bodyB k' n' d', k = k' ∧ n = n' ∧ d = d' := fun h => hE (by unfold encB; rw [h])
  generalize hXA : encB k n d = EA at *
  generalize hXB : encB k' n' d' = EB at *
  generalize hYA : bodyB k n d = BA at *
  generalize hYB : bodyB k' n' d' = BB at *
  have hall : (k = k' ∧ n = n' ∧ d = d') ∨ k ≠ k' ∨ (k = k' ∧ n ≠ n') ∨ (k = k' ∧ n = n' ∧ d ≠ d') := by omega
  rcases hall with ⟨rfl, rfl, rfl⟩ | e1 | ⟨rfl, e2⟩ | ⟨rfl, rfl, e3⟩
  · obtain rfl : EA = EB := hXA.symm.trans hXB
    obtain rfl : BA = BB := hYA.symm.trans hYB
    clear hXA hXB hYA hYB hE hB
    go_enter Try.func9, Try.ntmps9
    go_wp2_with (with_reducible refine (shown_any _).mono ?_)
    rintro e w1 ⟨rfl, b1⟩
    have kA1 := kA.below b1 kA.lt
    have kB1 := kB.below b1 kB.lt
    have B1 := bthen B0 b1
    clear kA kB B0 b1
    have r0 : ∀ m : CalmW w1.heap.size w1, _ := fun m => (kA1.below m.below kA1.lt).cell 0
    have r1 : ∀ m : CalmW w1.heap.size w1, _ := fun m => (kA1.below m.below kA1.lt).cell 1
    have r2 : ∀ m : CalmW w1.heap.size w1, _ := fun m => (kA1.below m.below kA1.lt).cell 2
    have s0 : ∀ m : CalmW w1.heap.size w1, _ := fun m => (kB1.below m.below kB1.lt).cell 0
    have s1 : ∀ m : CalmW w1.heap.size w1, _ := fun m => (kB1.below m.below kB1.lt).cell 1
    have s2 : ∀ m : CalmW w1.heap.size w1, _ := fun m => (kB1.below m.below kB1.lt).cell 2
    go_wp2_with fail
    (refine wp_region_calm (w1.heap.size) (by kernel_rfl) (by kernel_rfl) ?_; (repeat (go_big_quiet_step ((first | (with_reducible refine calm_of (Nat.le_refl _) (hEA _)) | (with_reducible refine calm_of (Nat.le_refl _) (hEB _)) | (with_reducible refine calm_of (Nat.le_refl _) (hBA _)) | (with_reducible refine calm_of (Nat.le_refl _) (hBB _)))))); refine wpQuiet_nil ?_; intro _ hw'; obtain ⟨⟨W5, hW5⟩, hw''⟩ := hw'; subst hw'')
    go_wp2
    go_ret
    exact ⟨rfl, B1.trans (hW5.mono B1.size)⟩
  · have f1 : (k == k') = false := by simpa using e1
    have f4 : (EA.toList == EB.toList) = false := toList_ne fun h => e1 (hE h).1
    have f5 : (BA.toList == BB.toList) = false := toList_ne fun h => e1 (hB h).1
    clear hXA hXB hYA hYB hE hB
    go_enter Try.func9, Try.ntmps9
    go_wp2_with (with_reducible refine (shown_any _).mono ?_)
    rintro e w1 ⟨rfl, b1⟩
    have kA1 := kA.below b1 kA.lt
    have kB1 := kB.below b1 kB.lt
    have B1 := bthen B0 b1
    clear kA kB B0 b1
    have r0 : ∀ m : CalmW w1.heap.size w1, _ := fun m => (kA1.below m.below kA1.lt).cell 0
    have r1 : ∀ m : CalmW w1.heap.size w1, _ := fun m => (kA1.below m.below kA1.lt).cell 1
    have r2 : ∀ m : CalmW w1.heap.size w1, _ := fun m => (kA1.below m.below kA1.lt).cell 2
    have s0 : ∀ m : CalmW w1.heap.size w1, _ := fun m => (kB1.below m.below kB1.lt).cell 0
    have s1 : ∀ m : CalmW w1.heap.size w1, _ := fun m => (kB1.below m.below kB1.lt).cell 1
    have s2 : ∀ m : CalmW w1.heap.size w1, _ := fun m => (kB1.below m.below kB1.lt).cell 2
    go_wp2_with fail
    (refine wp_region_calm (w1.heap.size) (by kernel_rfl) (by kernel_rfl) ?_; (repeat (go_big_quiet_step ((first | (with_reducible refine calm_of (Nat.le_refl _) (hEA _)) | (with_reducible refine calm_of (Nat.le_refl _) (hEB _)) | (with_reducible refine calm_of (Nat.le_refl _) (hBA _)) | (with_reducible refine calm_of (Nat.le_refl _) (hBB _)))))); refine wpQuiet_nil ?_; intro _ hw'; obtain ⟨⟨W5, hW5⟩, hw''⟩ := hw'; subst hw'')
    go_wp2
    go_ret
    exact ⟨rfl, B1.trans (hW5.mono B1.size)⟩
  · have f1 : ((n : Int) == (n' : Int)) = false := by simp; omega
    have f4 : (EA.toList == EB.toList) = false := toList_ne fun h => e2 (hE h).2.1
    have f5 : (BA.toList == BB.toList) = false := toList_ne fun h => e2 (hB h).2.1
    clear hXA hXB hYA hYB hE hB
    go_enter Try.func9, Try.ntmps9
    go_wp2_with (with_reducible refine (shown_any _).mono ?_)
    rintro e w1 ⟨rfl, b1⟩
    have kA1 := kA.below b1 kA.lt
    have kB1 := kB.below b1 kB.lt
    have B1 := bthen B0 b1
    clear kA kB B0 b1
    have r0 : ∀ m : CalmW w1.heap.size w1, _ := fun m => (kA1.below m.below kA1.lt).cell 0
    have r1 : ∀ m : CalmW w1.heap.size w1, _ := fun m => (kA1.below m.below kA1.lt).cell 1
    have r2 : ∀ m : CalmW w1.heap.size w1, _ := fun m => (kA1.below m.below kA1.lt).cell 2
    have s0 : ∀ m : CalmW w1.heap.size w1, _ := fun m => (kB1.below m.below kB1.lt).cell 0
    have s1 : ∀ m : CalmW w1.heap.size w1, _ := fun m => (kB1.below m.below kB1.lt).cell 1
    have s2 : ∀ m : CalmW w1.heap.size w1, _ := fun m => (kB1.below m.below kB1.lt).cell 2
    go_wp2_with fail
    (refine wp_region_calm (w1.heap.size) (by kernel_rfl) (by kernel_rfl) ?_; (repeat (go_big_quiet_step ((first | (with_reducible refine calm_of (Nat.le_refl _) (hEA _)) | (with_reducible refine calm_of (Nat.le_refl _) (hEB _)) | (with_reducible refine calm_of (Nat.le_refl _) (hBA _)) | (with_reducible refine calm_of (Nat.le_refl _) (hBB _)))))); refine wpQuiet_nil ?_; intro _ hw'; obtain ⟨⟨W5, hW5⟩, hw''⟩ := hw'; subst hw'')
    go_wp2
    go_ret
    exact ⟨rfl, B1.trans (hW5.mono B1.size)⟩
  · have f1 : ((d : Int) == (d' : Int)) = false := by simp; omega
    have f4 : (EA.toList == EB.toList) = false := toList_ne fun h => e3 (hE h).2.2
    have f5 : (BA.toList == BB.toList) = false := toList_ne fun h => e3 (hB h).2.2
    clear hXA hXB hYA hYB hE hB
    go_enter Try.func9, Try.ntmps9
    go_wp2_with (with_reducible refine (shown_any _).mono ?_)
    rintro e w1 ⟨rfl, b1⟩
    have kA1 := kA.below b1 kA.lt
    have kB1 := kB.below b1 kB.lt
    have B1 := bthen B0 b1
    clear kA kB B0 b1
    have r0 : ∀ m : CalmW w1.heap.size w1, _ := fun m => (kA1.below m.below kA1.lt).cell 0
    have r1 : ∀ m : CalmW w1.heap.size w1, _ := fun m => (kA1.below m.below kA1.lt).cell 1
    have r2 : ∀ m : CalmW w1.heap.size w1, _ := fun m => (kA1.below m.below kA1.lt).cell 2
    have s0 : ∀ m : CalmW w1.heap.size w1, _ := fun m => (kB1.below m.below kB1.lt).cell 0
    have s1 : ∀ m : CalmW w1.heap.size w1, _ := fun m => (kB1.below m.below kB1.lt).cell 1
    have s2 : ∀ m : CalmW w1.heap.size w1, _ := fun m => (kB1.below m.below kB1.lt).cell 2
    go_wp2_with fail
    (refine wp_region_calm (w1.heap.size) (by kernel_rfl) (by kernel_rfl) ?_; (repeat (go_big_quiet_step ((first | (with_reducible refine calm_of (Nat.le_refl _) (hEA _)) | (with_reducible refine calm_of (Nat.le_refl _) (hEB _)) | (with_reducible refine calm_of (Nat.le_refl _) (hBA _)) | (with_reducible refine calm_of (Nat.le_refl _) (hBB _)))))); refine wpQuiet_nil ?_; intro _ hw'; obtain ⟨⟨W5, hW5⟩, hw''⟩ := hw'; subst hw'')
    go_wp2
    go_ret
    exact ⟨rfl, B1.trans (hW5.mono B1.size)⟩

theorem apart (k n d k' n' d' : Int) (hk : (Lit.int .i64 k).wf = true) (hn : (Lit.int .u64 n).wf = true) (hd : (Lit.int .u64 d).wf = true) (hk' : (Lit.int .i64 k').wf = true) (hn' : (Lit.int .u64 n').wf = true) (hd' : (Lit.int .u64 d').wf = true) (w : World) :
    Calls Try.prog 9 #[.agg #[.int .i64 k, .int .u64 n, .int .u64 d], .agg #[.int .i64 k', .int .u64 n', .int .u64 d']] w fun e w' => e = .returned (.bool true) ∧ Below w.heap.size w w' := by
  by_cases h : k < 1 ∨ (1 ≤ k ∧ 3 < k) ∨ (1 ≤ k ∧ k ≤ 3 ∧ k' < 1) ∨ (1 ≤ k ∧ k ≤ 3 ∧ 1 ≤ k' ∧ 3 < k')
  · exact apart_out k n d k' n' d' h w
  · obtain ⟨n, rfl, a1⟩ := u64_val n hn
    obtain ⟨d, rfl, a2⟩ := u64_val d hd
    obtain ⟨n', rfl, a3⟩ := u64_val n' hn'
    obtain ⟨d', rfl, a4⟩ := u64_val d' hd'
    exact apart_in k n d k' n' d' (by omega) (by omega) (by omega) (by omega) a1 a2 a3 a4 w
end Go.Proofs.Ytclhdgolcaacbaa
