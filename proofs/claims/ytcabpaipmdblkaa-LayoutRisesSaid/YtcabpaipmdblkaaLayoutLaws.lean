/- The walks of the five laws of layer 5. -/
import Derived.Test.YtcabpaipmdblkaaLayout
namespace Go.Proofs.Ytcabpaipmdblkaa
open Go.RowKit
set_option linter.unusedVariables false

theorem wf64 {n : Int} (h : (Lit.int .i64 n).wf = true) : -9223372036854775808 ≤ n ∧ n ≤ 9223372036854775807 := by
  simp [Lit.wf, IntKind.min, IntKind.max, IntKind.signed, IntKind.bits] at h; omega

theorem slots_cases (n : Int) : (n % 24 = 0 ∧ 48 ≤ n ∧ n ≤ 312 ∧ slotsL n = n / 24 - 1) ∨ slotsL n = 0 := by
  unfold slotsL; split
  · left; omega
  · right; rfl
theorem size_cases (n : Int) : (1 ≤ n ∧ n ≤ 12 ∧ sizeL n = 24 * n + 24) ∨ ((n < 1 ∨ 12 < n) ∧ sizeL n = 0) := by
  unfold sizeL; split
  · left; omega
  · right; omega
theorem size_slots (n : Int) (hk : ¬ slotsL n = 0) : sizeL (slotsL n) = n := by
  rcases slots_cases n with ⟨h1, h2, h3, h4⟩ | h
  · rw [h4]; rcases size_cases (n / 24 - 1) with ⟨_, _, h⟩ | ⟨h, _⟩ <;> omega
  · exact absurd h hk
theorem slots_size (n : Int) (hk : ¬ sizeL n = 0) : slotsL (sizeL n) = n := by
  rcases size_cases n with ⟨h1, h2, h4⟩ | ⟨_, h⟩
  · rw [h4]; unfold slotsL; rw [if_pos (by omega)]; omega
  · exact absurd h hk

theorem sz2 : sizeL 2 = 72 := by decide
theorem sl72 : slotsL 72 = 2 := by decide
theorem sl71 : slotsL 71 = 0 := by decide
theorem at1 : atL 1 = 24 := by decide
theorem mk1 : markL 1 = 46 := by decide
theorem ev12 : evenL 12 = true := by decide
theorem ev13 : evenL 13 = false := by decide
theorem at13 : atL 13 = -1 := by decide

theorem shown_any (w : World) : Calls Try.prog 18 #[] w fun e w' => e = .returned (.bool true) ∧ w = w' := by
  have := sz2; have := sl72; have := sl71; have := at1; have := mk1; have := ev12; have := ev13; have := at13
  go_enter Try.func18, Try.ntmps18
  go_wp2_with (first
    | (go_at_call 8; refine (size_any _ _).mono ?_; rintro e w' ⟨rfl, rfl⟩)
    | (go_at_call 10; refine (slots_any _ _ (by omega) (by omega)).mono ?_; rintro e w' ⟨rfl, rfl⟩)
    | (go_at_call 12; refine (at_any _ _).mono ?_; rintro e w' ⟨rfl, rfl⟩)
    | (go_at_call 14; refine (mark_any _ _).mono ?_; rintro e w' ⟨rfl, rfl⟩)
    | (go_at_call 16; refine (even_any _ _).mono ?_; rintro e w' ⟨rfl, rfl⟩))
  go_ret
  exact ⟨rfl, rfl⟩

theorem tells (n : Int) (h : (Lit.int .i64 n).wf = true) (w : World) : Calls Try.prog 3 #[.int .i64 n] w fun e w' => e = .returned (.bool true) ∧ Below w.heap.size w w' := by
  obtain ⟨h1, h2⟩ := wf64 h
  clear h
  go_enter Try.func3, Try.ntmps3
  go_wp2_with (first
    | (go_at_call 8; refine (size_any _ _).mono ?_; rintro e w' ⟨rfl, rfl⟩)
    | (go_at_call 10; refine (slots_any _ _ (by omega) (by omega)).mono ?_; rintro e w' ⟨rfl, rfl⟩)
    | (go_at_call 12; refine (at_any _ _).mono ?_; rintro e w' ⟨rfl, rfl⟩)
    | (go_at_call 14; refine (mark_any _ _).mono ?_; rintro e w' ⟨rfl, rfl⟩)
    | (go_at_call 16; refine (even_any _ _).mono ?_; rintro e w' ⟨rfl, rfl⟩)
    | (go_at_call 9; refine (rsize_any _ _).mono ?_; rintro e w' ⟨rfl, rfl⟩)
    | (go_at_call 11; refine (rslots_any _ _).mono ?_; rintro e w' ⟨rfl, rfl⟩)
    | (go_at_call 13; refine (rat_any _ _).mono ?_; rintro e w' ⟨rfl, rfl⟩)
    | (go_at_call 15; refine (rmark_any _ _).mono ?_; rintro e w' ⟨rfl, rfl⟩)
    | (go_at_call 17; refine (reven_any _ _).mono ?_; rintro e w' ⟨rfl, rfl⟩)
    | (go_at_call 18; refine (shown_any _).mono ?_; rintro e w' ⟨rfl, rfl⟩))
  go_ret
  exact ⟨rfl, Below.refl _ _⟩

theorem back (n : Int) (h : (Lit.int .i64 n).wf = true) (w : World) : Calls Try.prog 4 #[.int .i64 n] w fun e w' => e = .returned (.bool true) ∧ Below w.heap.size w w' := by
  obtain ⟨h1, h2⟩ := wf64 h
  clear h
  have hz : -9223372036854775808 ≤ sizeL n ∧ sizeL n ≤ 9223372036854775807 := by unfold sizeL; split <;> omega
  obtain ⟨z1, z2⟩ := hz
  by_cases hs : sizeL n = 0
  · by_cases hk : slotsL n = 0
    · go_enter Try.func4, Try.ntmps4
      go_wp2_with (first | (go_at_call 8; refine (size_any _ _).mono ?_; rintro e w' ⟨rfl, rfl⟩) | (go_at_call 10; refine (slots_any _ _ (by omega) (by omega)).mono ?_; rintro e w' ⟨rfl, rfl⟩) | (go_at_call 12; refine (at_any _ _).mono ?_; rintro e w' ⟨rfl, rfl⟩) | (go_at_call 14; refine (mark_any _ _).mono ?_; rintro e w' ⟨rfl, rfl⟩) | (go_at_call 16; refine (even_any _ _).mono ?_; rintro e w' ⟨rfl, rfl⟩) | (go_at_call 18; refine (shown_any _).mono ?_; rintro e w' ⟨rfl, rfl⟩))
      go_ret
      exact ⟨rfl, Below.refl _ _⟩
    · have hb : sizeL (slotsL n) = n := size_slots n hk
      go_enter Try.func4, Try.ntmps4
      go_wp2_with (first | (go_at_call 8; refine (size_any _ _).mono ?_; rintro e w' ⟨rfl, rfl⟩) | (go_at_call 10; refine (slots_any _ _ (by omega) (by omega)).mono ?_; rintro e w' ⟨rfl, rfl⟩) | (go_at_call 12; refine (at_any _ _).mono ?_; rintro e w' ⟨rfl, rfl⟩) | (go_at_call 14; refine (mark_any _ _).mono ?_; rintro e w' ⟨rfl, rfl⟩) | (go_at_call 16; refine (even_any _ _).mono ?_; rintro e w' ⟨rfl, rfl⟩) | (go_at_call 18; refine (shown_any _).mono ?_; rintro e w' ⟨rfl, rfl⟩))
      go_ret
      exact ⟨rfl, Below.refl _ _⟩
  · have ha : slotsL (sizeL n) = n := slots_size n hs
    have hs' : (sizeL n == 0) = false := by simpa using hs
    by_cases hk : slotsL n = 0
    · go_enter Try.func4, Try.ntmps4
      go_wp2_with (first | (go_at_call 8; refine (size_any _ _).mono ?_; rintro e w' ⟨rfl, rfl⟩) | (go_at_call 10; refine (slots_any _ _ (by omega) (by omega)).mono ?_; rintro e w' ⟨rfl, rfl⟩) | (go_at_call 12; refine (at_any _ _).mono ?_; rintro e w' ⟨rfl, rfl⟩) | (go_at_call 14; refine (mark_any _ _).mono ?_; rintro e w' ⟨rfl, rfl⟩) | (go_at_call 16; refine (even_any _ _).mono ?_; rintro e w' ⟨rfl, rfl⟩) | (go_at_call 18; refine (shown_any _).mono ?_; rintro e w' ⟨rfl, rfl⟩))
      go_ret
      exact ⟨rfl, Below.refl _ _⟩
    · have hb : sizeL (slotsL n) = n := size_slots n hk
      go_enter Try.func4, Try.ntmps4
      go_wp2_with (first | (go_at_call 8; refine (size_any _ _).mono ?_; rintro e w' ⟨rfl, rfl⟩) | (go_at_call 10; refine (slots_any _ _ (by omega) (by omega)).mono ?_; rintro e w' ⟨rfl, rfl⟩) | (go_at_call 12; refine (at_any _ _).mono ?_; rintro e w' ⟨rfl, rfl⟩) | (go_at_call 14; refine (mark_any _ _).mono ?_; rintro e w' ⟨rfl, rfl⟩) | (go_at_call 16; refine (even_any _ _).mono ?_; rintro e w' ⟨rfl, rfl⟩) | (go_at_call 18; refine (shown_any _).mono ?_; rintro e w' ⟨rfl, rfl⟩))
      go_ret
      exact ⟨rfl, Below.refl _ _⟩

theorem apart_same (n a : Int) (c1 : 1 ≤ n) (c2 : n ≤ 12) (c3 : 0 ≤ a) (c5 : a ≤ n) (w : World) :
    Calls Try.prog 5 #[.int .i64 n, .int .i64 a, .int .i64 a] w fun e w' => e = .returned (.bool true) ∧ Below w.heap.size w w' := by
  have e1 : evenL n = true := by simp [evenL, c1, c2]
  have e2 : atL a = 24 * a := by unfold atL; rw [if_pos (by omega)]
  have e4 : markL a = 24 * a + 22 := by unfold markL; rw [if_pos (by omega)]
  have e5 : sizeL n = 24 * n + 24 := by unfold sizeL; rw [if_pos (by omega)]
  go_enter Try.func5, Try.ntmps5
  go_wp2_with (first | (go_at_call 8; refine (size_any _ _).mono ?_; rintro e w' ⟨rfl, rfl⟩) | (go_at_call 10; refine (slots_any _ _ (by omega) (by omega)).mono ?_; rintro e w' ⟨rfl, rfl⟩) | (go_at_call 12; refine (at_any _ _).mono ?_; rintro e w' ⟨rfl, rfl⟩) | (go_at_call 14; refine (mark_any _ _).mono ?_; rintro e w' ⟨rfl, rfl⟩) | (go_at_call 16; refine (even_any _ _).mono ?_; rintro e w' ⟨rfl, rfl⟩) | (go_at_call 18; refine (shown_any _).mono ?_; rintro e w' ⟨rfl, rfl⟩))
  go_ret
  exact ⟨rfl, Below.refl _ _⟩

theorem apart_other (n a b : Int) (c1 : 1 ≤ n) (c2 : n ≤ 12) (c3 : 0 ≤ a) (c5 : a ≤ n) (c4 : 0 ≤ b) (c6 : b ≤ n) (hab : (a == b) = false) (h : a < b ∨ b < a) (w : World) :
    Calls Try.prog 5 #[.int .i64 n, .int .i64 a, .int .i64 b] w fun e w' => e = .returned (.bool true) ∧ Below w.heap.size w w' := by
  have e1 : evenL n = true := by simp [evenL, c1, c2]
  have e2 : atL a = 24 * a := by unfold atL; rw [if_pos (by omega)]
  have e3 : atL b = 24 * b := by unfold atL; rw [if_pos (by omega)]
  have e4 : markL a = 24 * a + 22 := by unfold markL; rw [if_pos (by omega)]
  have e5 : sizeL n = 24 * n + 24 := by unfold sizeL; rw [if_pos (by omega)]
  rcases h with h | h
  · go_enter Try.func5, Try.ntmps5
    go_wp2_with (first | (go_at_call 8; refine (size_any _ _).mono ?_; rintro e w' ⟨rfl, rfl⟩) | (go_at_call 10; refine (slots_any _ _ (by omega) (by omega)).mono ?_; rintro e w' ⟨rfl, rfl⟩) | (go_at_call 12; refine (at_any _ _).mono ?_; rintro e w' ⟨rfl, rfl⟩) | (go_at_call 14; refine (mark_any _ _).mono ?_; rintro e w' ⟨rfl, rfl⟩) | (go_at_call 16; refine (even_any _ _).mono ?_; rintro e w' ⟨rfl, rfl⟩) | (go_at_call 18; refine (shown_any _).mono ?_; rintro e w' ⟨rfl, rfl⟩))
    go_ret
    first | exact ⟨rfl, Below.refl _ _⟩ | exact ⟨ret_bool (by simp; omega), Below.refl _ _⟩
  · go_enter Try.func5, Try.ntmps5
    go_wp2_with (first | (go_at_call 8; refine (size_any _ _).mono ?_; rintro e w' ⟨rfl, rfl⟩) | (go_at_call 10; refine (slots_any _ _ (by omega) (by omega)).mono ?_; rintro e w' ⟨rfl, rfl⟩) | (go_at_call 12; refine (at_any _ _).mono ?_; rintro e w' ⟨rfl, rfl⟩) | (go_at_call 14; refine (mark_any _ _).mono ?_; rintro e w' ⟨rfl, rfl⟩) | (go_at_call 16; refine (even_any _ _).mono ?_; rintro e w' ⟨rfl, rfl⟩) | (go_at_call 18; refine (shown_any _).mono ?_; rintro e w' ⟨rfl, rfl⟩))
    go_ret
    first | exact ⟨rfl, Below.refl _ _⟩ | exact ⟨ret_bool (by simp; omega), Below.refl _ _⟩

theorem apart (n a b : Int) (hn : (Lit.int .i64 n).wf = true) (ha : (Lit.int .i64 a).wf = true) (hb : (Lit.int .i64 b).wf = true) (w : World) :
    Calls Try.prog 5 #[.int .i64 n, .int .i64 a, .int .i64 b] w fun e w' => e = .returned (.bool true) ∧ Below w.heap.size w w' := by
  clear hn ha hb
  by_cases c : 1 ≤ n ∧ n ≤ 12
  · obtain ⟨c1, c2⟩ := c
    by_cases h1 : a < 0
    · have e1 : evenL n = true := by simp [evenL, c1, c2]
      go_enter Try.func5, Try.ntmps5
      go_wp2_with (first | (go_at_call 8; refine (size_any _ _).mono ?_; rintro e w' ⟨rfl, rfl⟩) | (go_at_call 10; refine (slots_any _ _ (by omega) (by omega)).mono ?_; rintro e w' ⟨rfl, rfl⟩) | (go_at_call 12; refine (at_any _ _).mono ?_; rintro e w' ⟨rfl, rfl⟩) | (go_at_call 14; refine (mark_any _ _).mono ?_; rintro e w' ⟨rfl, rfl⟩) | (go_at_call 16; refine (even_any _ _).mono ?_; rintro e w' ⟨rfl, rfl⟩) | (go_at_call 18; refine (shown_any _).mono ?_; rintro e w' ⟨rfl, rfl⟩))
      go_ret
      first | exact ⟨rfl, Below.refl _ _⟩ | exact ⟨ret_bool (by simp; omega), Below.refl _ _⟩
    · by_cases h2 : b < 0
      · have e1 : evenL n = true := by simp [evenL, c1, c2]
        go_enter Try.func5, Try.ntmps5
        go_wp2_with (first | (go_at_call 8; refine (size_any _ _).mono ?_; rintro e w' ⟨rfl, rfl⟩) | (go_at_call 10; refine (slots_any _ _ (by omega) (by omega)).mono ?_; rintro e w' ⟨rfl, rfl⟩) | (go_at_call 12; refine (at_any _ _).mono ?_; rintro e w' ⟨rfl, rfl⟩) | (go_at_call 14; refine (mark_any _ _).mono ?_; rintro e w' ⟨rfl, rfl⟩) | (go_at_call 16; refine (even_any _ _).mono ?_; rintro e w' ⟨rfl, rfl⟩) | (go_at_call 18; refine (shown_any _).mono ?_; rintro e w' ⟨rfl, rfl⟩))
        go_ret
        first | exact ⟨rfl, Below.refl _ _⟩ | exact ⟨ret_bool (by simp; omega), Below.refl _ _⟩
      · by_cases h3 : n < a
        · have e1 : evenL n = true := by simp [evenL, c1, c2]
          go_enter Try.func5, Try.ntmps5
          go_wp2_with (first | (go_at_call 8; refine (size_any _ _).mono ?_; rintro e w' ⟨rfl, rfl⟩) | (go_at_call 10; refine (slots_any _ _ (by omega) (by omega)).mono ?_; rintro e w' ⟨rfl, rfl⟩) | (go_at_call 12; refine (at_any _ _).mono ?_; rintro e w' ⟨rfl, rfl⟩) | (go_at_call 14; refine (mark_any _ _).mono ?_; rintro e w' ⟨rfl, rfl⟩) | (go_at_call 16; refine (even_any _ _).mono ?_; rintro e w' ⟨rfl, rfl⟩) | (go_at_call 18; refine (shown_any _).mono ?_; rintro e w' ⟨rfl, rfl⟩))
          go_ret
          first | exact ⟨rfl, Below.refl _ _⟩ | exact ⟨ret_bool (by simp; omega), Below.refl _ _⟩
        · by_cases h4 : n < b
          · have e1 : evenL n = true := by simp [evenL, c1, c2]
            go_enter Try.func5, Try.ntmps5
            go_wp2_with (first | (go_at_call 8; refine (size_any _ _).mono ?_; rintro e w' ⟨rfl, rfl⟩) | (go_at_call 10; refine (slots_any _ _ (by omega) (by omega)).mono ?_; rintro e w' ⟨rfl, rfl⟩) | (go_at_call 12; refine (at_any _ _).mono ?_; rintro e w' ⟨rfl, rfl⟩) | (go_at_call 14; refine (mark_any _ _).mono ?_; rintro e w' ⟨rfl, rfl⟩) | (go_at_call 16; refine (even_any _ _).mono ?_; rintro e w' ⟨rfl, rfl⟩) | (go_at_call 18; refine (shown_any _).mono ?_; rintro e w' ⟨rfl, rfl⟩))
            go_ret
            first | exact ⟨rfl, Below.refl _ _⟩ | exact ⟨ret_bool (by simp; omega), Below.refl _ _⟩
          · by_cases hab : a = b
            · subst hab; exact apart_same n a c1 c2 (by omega) (by omega) w
            · exact apart_other n a b c1 c2 (by omega) (by omega) (by omega) (by omega) (by simpa using hab) (by omega) w
  · have e1 : evenL n = false := by unfold evenL; simp; omega
    clear c
    go_enter Try.func5, Try.ntmps5
    go_wp2_with (first | (go_at_call 8; refine (size_any _ _).mono ?_; rintro e w' ⟨rfl, rfl⟩) | (go_at_call 10; refine (slots_any _ _ (by omega) (by omega)).mono ?_; rintro e w' ⟨rfl, rfl⟩) | (go_at_call 12; refine (at_any _ _).mono ?_; rintro e w' ⟨rfl, rfl⟩) | (go_at_call 14; refine (mark_any _ _).mono ?_; rintro e w' ⟨rfl, rfl⟩) | (go_at_call 16; refine (even_any _ _).mono ?_; rintro e w' ⟨rfl, rfl⟩) | (go_at_call 18; refine (shown_any _).mono ?_; rintro e w' ⟨rfl, rfl⟩))
    go_ret
    first | exact ⟨rfl, Below.refl _ _⟩ | exact ⟨ret_bool (by simp; omega), Below.refl _ _⟩

theorem at0 : atL 0 = 0 := by decide

theorem next (n : Int) (hn : (Lit.int .i64 n).wf = true) (w : World) :
    Calls Try.prog 6 #[.int .i64 n] w fun e w' => e = .returned (.bool true) ∧ Below w.heap.size w w' := by
  clear hn
  by_cases h1 : n < 0
  · go_enter Try.func6, Try.ntmps6
    go_wp2_with (first | (go_at_call 8; refine (size_any _ _).mono ?_; rintro e w' ⟨rfl, rfl⟩) | (go_at_call 10; refine (slots_any _ _ (by omega) (by omega)).mono ?_; rintro e w' ⟨rfl, rfl⟩) | (go_at_call 12; refine (at_any _ _).mono ?_; rintro e w' ⟨rfl, rfl⟩) | (go_at_call 14; refine (mark_any _ _).mono ?_; rintro e w' ⟨rfl, rfl⟩) | (go_at_call 16; refine (even_any _ _).mono ?_; rintro e w' ⟨rfl, rfl⟩) | (go_at_call 18; refine (shown_any _).mono ?_; rintro e w' ⟨rfl, rfl⟩))
    go_ret
    first | exact ⟨rfl, Below.refl _ _⟩ | exact ⟨ret_bool (by simp; omega), Below.refl _ _⟩
  · by_cases h2 : 12 ≤ n
    · go_enter Try.func6, Try.ntmps6
      go_wp2_with (first | (go_at_call 8; refine (size_any _ _).mono ?_; rintro e w' ⟨rfl, rfl⟩) | (go_at_call 10; refine (slots_any _ _ (by omega) (by omega)).mono ?_; rintro e w' ⟨rfl, rfl⟩) | (go_at_call 12; refine (at_any _ _).mono ?_; rintro e w' ⟨rfl, rfl⟩) | (go_at_call 14; refine (mark_any _ _).mono ?_; rintro e w' ⟨rfl, rfl⟩) | (go_at_call 16; refine (even_any _ _).mono ?_; rintro e w' ⟨rfl, rfl⟩) | (go_at_call 18; refine (shown_any _).mono ?_; rintro e w' ⟨rfl, rfl⟩))
      go_ret
      first | exact ⟨rfl, Below.refl _ _⟩ | exact ⟨ret_bool (by simp; omega), Below.refl _ _⟩
    · have e2 : atL (n + 1) = 24 * n + 24 := by unfold atL; rw [if_pos (by omega)]; omega
      have e4 : markL n = 24 * n + 22 := by unfold markL; rw [if_pos (by omega)]
      have e5 : sizeL (n + 1) = 24 * n + 48 := by unfold sizeL; rw [if_pos (by omega)]; omega
      have e6 := at0
      go_enter Try.func6, Try.ntmps6
      go_wp2_with (first | (go_at_call 8; refine (size_any _ _).mono ?_; rintro e w' ⟨rfl, rfl⟩) | (go_at_call 10; refine (slots_any _ _ (by omega) (by omega)).mono ?_; rintro e w' ⟨rfl, rfl⟩) | (go_at_call 12; refine (at_any _ _).mono ?_; rintro e w' ⟨rfl, rfl⟩) | (go_at_call 14; refine (mark_any _ _).mono ?_; rintro e w' ⟨rfl, rfl⟩) | (go_at_call 16; refine (even_any _ _).mono ?_; rintro e w' ⟨rfl, rfl⟩) | (go_at_call 18; refine (shown_any _).mono ?_; rintro e w' ⟨rfl, rfl⟩))
      go_ret
      first | exact ⟨rfl, Below.refl _ _⟩ | exact ⟨ret_bool (by simp; omega), Below.refl _ _⟩

theorem rises (a b : Int) (ha : (Lit.int .i64 a).wf = true) (hb : (Lit.int .i64 b).wf = true) (w : World) :
    Calls Try.prog 7 #[.int .i64 a, .int .i64 b] w fun e w' => e = .returned (.bool true) ∧ Below w.heap.size w w' := by
  clear ha hb
  by_cases c : 1 ≤ a ∧ a ≤ 12
  · obtain ⟨c1, c2⟩ := c
    have e1 : evenL a = true := by simp [evenL, c1, c2]
    by_cases d : 1 ≤ b ∧ b ≤ 12
    · obtain ⟨d1, d2⟩ := d
      have e2 : evenL b = true := by simp [evenL, d1, d2]
      have e5 : sizeL a = 24 * a + 24 := by unfold sizeL; rw [if_pos (by omega)]
      have e6 : sizeL b = 24 * b + 24 := by unfold sizeL; rw [if_pos (by omega)]
      rcases (show a < b ∨ a = b ∨ b < a from by omega) with h | h | h
      · have f1 : (a == b) = false := by simp; omega
        have f2 : (24 * a + 24 == 24 * b + 24) = false := by simp; omega
        go_enter Try.func7, Try.ntmps7
        go_wp2_with (first | (go_at_call 8; refine (size_any _ _).mono ?_; rintro e w' ⟨rfl, rfl⟩) | (go_at_call 10; refine (slots_any _ _ (by omega) (by omega)).mono ?_; rintro e w' ⟨rfl, rfl⟩) | (go_at_call 12; refine (at_any _ _).mono ?_; rintro e w' ⟨rfl, rfl⟩) | (go_at_call 14; refine (mark_any _ _).mono ?_; rintro e w' ⟨rfl, rfl⟩) | (go_at_call 16; refine (even_any _ _).mono ?_; rintro e w' ⟨rfl, rfl⟩) | (go_at_call 18; refine (shown_any _).mono ?_; rintro e w' ⟨rfl, rfl⟩))
        go_ret
        first | exact ⟨rfl, Below.refl _ _⟩ | exact ⟨ret_bool (by simp; omega), Below.refl _ _⟩
      · subst h
        go_enter Try.func7, Try.ntmps7
        go_wp2_with (first | (go_at_call 8; refine (size_any _ _).mono ?_; rintro e w' ⟨rfl, rfl⟩) | (go_at_call 10; refine (slots_any _ _ (by omega) (by omega)).mono ?_; rintro e w' ⟨rfl, rfl⟩) | (go_at_call 12; refine (at_any _ _).mono ?_; rintro e w' ⟨rfl, rfl⟩) | (go_at_call 14; refine (mark_any _ _).mono ?_; rintro e w' ⟨rfl, rfl⟩) | (go_at_call 16; refine (even_any _ _).mono ?_; rintro e w' ⟨rfl, rfl⟩) | (go_at_call 18; refine (shown_any _).mono ?_; rintro e w' ⟨rfl, rfl⟩))
        go_ret
        first | exact ⟨rfl, Below.refl _ _⟩ | exact ⟨ret_bool (by simp; omega), Below.refl _ _⟩
      · have f1 : (a == b) = false := by simp; omega
        have f2 : (24 * a + 24 == 24 * b + 24) = false := by simp; omega
        go_enter Try.func7, Try.ntmps7
        go_wp2_with (first | (go_at_call 8; refine (size_any _ _).mono ?_; rintro e w' ⟨rfl, rfl⟩) | (go_at_call 10; refine (slots_any _ _ (by omega) (by omega)).mono ?_; rintro e w' ⟨rfl, rfl⟩) | (go_at_call 12; refine (at_any _ _).mono ?_; rintro e w' ⟨rfl, rfl⟩) | (go_at_call 14; refine (mark_any _ _).mono ?_; rintro e w' ⟨rfl, rfl⟩) | (go_at_call 16; refine (even_any _ _).mono ?_; rintro e w' ⟨rfl, rfl⟩) | (go_at_call 18; refine (shown_any _).mono ?_; rintro e w' ⟨rfl, rfl⟩))
        go_ret
        first | exact ⟨rfl, Below.refl _ _⟩ | exact ⟨ret_bool (by simp; omega), Below.refl _ _⟩
    · have e2 : evenL b = false := by unfold evenL; simp; omega
      clear d
      go_enter Try.func7, Try.ntmps7
      go_wp2_with (first | (go_at_call 8; refine (size_any _ _).mono ?_; rintro e w' ⟨rfl, rfl⟩) | (go_at_call 10; refine (slots_any _ _ (by omega) (by omega)).mono ?_; rintro e w' ⟨rfl, rfl⟩) | (go_at_call 12; refine (at_any _ _).mono ?_; rintro e w' ⟨rfl, rfl⟩) | (go_at_call 14; refine (mark_any _ _).mono ?_; rintro e w' ⟨rfl, rfl⟩) | (go_at_call 16; refine (even_any _ _).mono ?_; rintro e w' ⟨rfl, rfl⟩) | (go_at_call 18; refine (shown_any _).mono ?_; rintro e w' ⟨rfl, rfl⟩))
      go_ret
      first | exact ⟨rfl, Below.refl _ _⟩ | exact ⟨ret_bool (by simp; omega), Below.refl _ _⟩
  · have e1 : evenL a = false := by unfold evenL; simp; omega
    clear c
    go_enter Try.func7, Try.ntmps7
    go_wp2_with (first | (go_at_call 8; refine (size_any _ _).mono ?_; rintro e w' ⟨rfl, rfl⟩) | (go_at_call 10; refine (slots_any _ _ (by omega) (by omega)).mono ?_; rintro e w' ⟨rfl, rfl⟩) | (go_at_call 12; refine (at_any _ _).mono ?_; rintro e w' ⟨rfl, rfl⟩) | (go_at_call 14; refine (mark_any _ _).mono ?_; rintro e w' ⟨rfl, rfl⟩) | (go_at_call 16; refine (even_any _ _).mono ?_; rintro e w' ⟨rfl, rfl⟩) | (go_at_call 18; refine (shown_any _).mono ?_; rintro e w' ⟨rfl, rfl⟩))
    go_ret
    first | exact ⟨rfl, Below.refl _ _⟩ | exact ⟨ret_bool (by simp; omega), Below.refl _ _⟩

end Go.Proofs.Ytcabpaipmdblkaa
