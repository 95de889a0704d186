/- The document's bank (dogwatchref08) at a place that is there. -/
import Derived.Test.YtopcklbeppiipaaBankP
import Derived.Test.YtopcklbeppiipaaRefDec
namespace Go.Proofs.Ytopcklbeppiipaa
open Go.RowKit
set_option linter.unusedVariables false
set_option linter.unusedSimpArgs false

theorem rslots_at {s : ByteArray} {m : Nat} (h : placeN s = m + 1) (w : World) :
    Calls Try.prog 10 #[.int .i64 (s.size : Int)] w fun e w' => e = .returned (.int .i64 (m : Int)) ∧ w = w' := by
  have := rslots_any (s.size : Int) w
  rw [placeN_slots, h, if_pos (by omega), show ((m + 1 : Nat) : Int) - 1 = (m : Int) by omega] at this
  exact this

theorem rSlot_in (s : ByteArray) (j : Nat) (h : j < placeN s) (w : World) :
    Calls Try.prog 23 #[.string s, .int .i64 (j : Int)] w fun e w' => e = .returned (.string (slotS s (j : Int))) ∧ w = w' := by
  obtain ⟨h1, h2, h3⟩ := placeN_pos (by omega : 0 < placeN s)
  obtain ⟨m, hm⟩ : ∃ m, placeN s = m + 1 := ⟨placeN s - 1, by omega⟩
  have hR := rslots_at hm
  rw [slotS_nat s j h]
  unfold place
  rw [hm] at h1 h2 h3
  have hj : j ≤ m := by omega
  have hm12 : m ≤ 12 := by omega
  have hm0 : ((m : Int) == 0) = false := by simp; omega
  have d1 : decide ((j : Int) < 0) = false := by simp
  have d2 : decide ((m : Int) < (j : Int)) = false := by simp; omega
  have d3 : decide ((s.size : Int) < 24 * (j : Int) + 24) = false := by simp; omega
  have g1 : 24 * (j : Int) ≤ (s.size : Int) := by omega
  have g2 : 24 * (j : Int) + 24 ≤ (s.size : Int) := by omega
  clear h h1 h2 h3 hm
  go_enter Try.func23, Try.ntmps23
  go_wp2_with (with_reducible refine (hR _).mono ?_; rintro e w1 ⟨rfl, rfl⟩)
  go_ret
  exact ⟨rfl, rfl⟩

theorem rRecord_in (s : ByteArray) (j : Nat) (h : j < placeN s) (w : World) :
    Calls Try.prog 12 #[.string s, .int .i64 (j : Int)] w fun e w' => e = .returned (decV (slotS s (j : Int))) ∧ Below w.heap.size w w' := by
  have h1 := rSlot_in s j h
  have h2 := rDecode_any (slotS s (j : Int)) (by have := slotS_size s (j : Int); omega)
  unfold decV at h2 ⊢
  generalize slotS s (j : Int) = X at *
  generalize decE X = E at *
  generalize decK X = K at *
  generalize decN X = N at *
  generalize decD X = D at *
  clear h
  have k0 := Blk.new w 31 #[.int .i64 0, .int .u64 0, .int .u64 0]
  have B0 : Below w.heap.size w (w.alloc (.cells #[.int .i64 0, .int .u64 0, .int .u64 0] 31)) := (Below.refl _ w).alloc (Nat.le_refl _) _
  go_enter Try.func12, Try.ntmps12
  go_wp2_with (with_reducible refine (h1 _).mono ?_; rintro e w1 ⟨rfl, rfl⟩)
  refine (h2 _).mono ?_
  rintro e w2 ⟨rfl, b2⟩
  have k2 := k0.below b2 k0.lt
  have B2 := bthen B0 b2
  have r0 := k2.cell 0
  have r1 := k2.cell 1
  have r2 := k2.cell 2
  have f0 := k2.frozen 0
  have f1 := k2.frozen 1
  have f2 := k2.frozen 2
  go_wp2
  have g := rdec_sets k2 (.int .i64 (K : Int)) (.int .u64 (N : Int)) (.int .u64 (D : Int))
  have B3 := dec_bel B2 (.int .i64 (K : Int)) (.int .u64 (N : Int)) (.int .u64 (D : Int))
  generalize World.setCell (World.setCell (World.setCell w2 _ _) _ _) _ _ = W3 at *
  have s0 := g.cell 0
  have s1 := g.cell 1
  have s2 := g.cell 2
  simp at s0 s1 s2
  exact bodyPost_ret (v := .tuple #[recV (K : Int) N D, .int .i64 E]) (by simp [results, Try.results12, go_sem, s0, s1, s2]) rfl ⟨rfl, B3⟩

theorem rState_in (s : ByteArray) (j : Nat) (hj : 1 ≤ j) (h : j < placeN s) (w : World) :
    Calls Try.prog 11 #[.string s, .int .i64 (j : Int)] w fun e w' => e = .returned (.int .i64 (stateS s (j : Int))) ∧ Below w.heap.size w w' := by
  have h1 := rRecord_in s j h
  unfold decV recV at h1
  have hst : stateS s (j : Int) = if decE (slotS s (j : Int)) = 5 then 0 else if decE (slotS s (j : Int)) ≠ 0 ∨ decK (slotS s (j : Int)) = 1 then 1 else 2 := by
    unfold stateS stateP
    by_cases h5 : decE (slotS s (j : Int)) = 5
    · rw [if_pos h5, if_pos h5]
    · rw [if_neg h5, if_neg h5]
      have : ¬ ((j : Int) = 0) := by omega
      simp [this]
      omega
  rw [hst]
  generalize decE (slotS s (j : Int)) = E at *
  generalize decK (slotS s (j : Int)) = K at *
  generalize decN (slotS s (j : Int)) = N at *
  generalize decD (slotS s (j : Int)) = D at *
  have nj : ((j : Int) == 0) = false := by simp; omega
  clear hst hj h
  by_cases e5 : E = 5
  · subst e5
    rw [if_pos rfl]
    go_enter Try.func11, Try.ntmps11
    go_wp2_with (with_reducible refine (h1 _).mono ?_; rintro e w1 ⟨rfl, b1⟩)
    go_ret
    exact ⟨rfl, b1.alloc b1.size _⟩
  · rw [if_neg e5]
    have n5 : (E == 5) = false := by simpa using e5
    by_cases e0 : E = 0
    · subst e0
      by_cases k1 : K = 1
      · subst k1
        rw [if_pos (.inr rfl)]
        clear e5
        go_enter Try.func11, Try.ntmps11
        go_wp2_with (with_reducible refine (h1 _).mono ?_; rintro e w1 ⟨rfl, b1⟩)
        go_ret
        exact ⟨rfl, b1.alloc b1.size _⟩
      · rw [if_neg (by simp [k1])]
        have nk : ((K : Int) == 1) = false := by simp; omega
        clear e5 k1
        go_enter Try.func11, Try.ntmps11
        go_wp2_with (with_reducible refine (h1 _).mono ?_; rintro e w1 ⟨rfl, b1⟩)
        go_ret
        exact ⟨rfl, b1.alloc b1.size _⟩
    · rw [if_pos (.inl e0)]
      have n0 : (E == 0) = false := by simpa using e0
      clear e5 e0
      go_enter Try.func11, Try.ntmps11
      go_wp2_with (with_reducible refine (h1 _).mono ?_; rintro e w1 ⟨rfl, b1⟩)
      go_ret
      exact ⟨rfl, b1.alloc b1.size _⟩
end Go.Proofs.Ytopcklbeppiipaa
