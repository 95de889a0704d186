/- The walk of the law ScanNext. -/
import Derived.Test.YtopcklbeppiipaaScanSh
namespace Go.Proofs.Ytopcklbeppiipaa
open Go.RowKit
set_option linter.unusedVariables false
set_option linter.unusedSimpArgs false

theorem next_out (s : ByteArray) (h : 400 < s.size) (hs : s.size ≤ maxLen) (w : World) :
    Calls Try.prog 4 #[.string s] w fun e w' => e = .returned (.bool true) ∧ Below w.heap.size w w' := by
  unfold maxLen at hs
  go_enter Try.func4, Try.ntmps4
  go_wp2_with (with_reducible refine (shown9_any _).mono ?_; rintro e w1 ⟨rfl, b1⟩)
  go_ret
  exact ⟨rfl, b1⟩

theorem next_none (s : ByteArray) (h : s.size ≤ 400) (hN : placeN s = 0) (w : World) :
    Calls Try.prog 4 #[.string s] w fun e w' => e = .returned (.bool true) ∧ Below w.heap.size w w' := by
  have hm : s.size ≤ maxLen := by unfold maxLen; omega
  have hR := rslots_any (s.size : Int)
  rw [placeN_slots, hN] at hR
  replace hR : ∀ w : World, Calls Try.prog 10 #[.int .i64 (s.size : Int)] w fun e w' => e = .returned (.int .i64 0) ∧ w = w' := fun w => hR w
  have hNx := Next_any s hm
  have : nextS s = 0 := by unfold nextS; rw [hN]; rfl
  rw [this] at hNx
  clear this hN hm
  go_enter Try.func4, Try.ntmps4
  go_wp2_with (with_reducible refine (shown9_any _).mono ?_; rintro e w1 ⟨rfl, b1⟩)
  go_wp2_with (with_reducible refine (hR _).mono ?_; rintro e w2 ⟨rfl, rfl⟩)
  go_wp2_with (with_reducible refine (hNx _).mono ?_; rintro e w3 ⟨rfl, b3⟩)
  go_ret
  exact ⟨rfl, bthen b1 b3⟩

theorem next_full (s : ByteArray) (m : Nat) (h : s.size ≤ 400) (hN : placeN s = m + 1) (hm1 : 1 ≤ m) (hm12 : m ≤ 12) (hF : free s m = 0) (w : World) :
    Calls Try.prog 4 #[.string s] w fun e w' => e = .returned (.bool true) ∧ Below w.heap.size w w' := by
  have hm : s.size ≤ maxLen := by unfold maxLen; omega
  have hR := rslots_at hN
  have hNx := Next_any s hm
  have : nextS s = 0 := by unfold nextS; rw [hN, show m + 1 - 1 = m by omega, hF]; rfl
  rw [this] at hNx
  have hS := rState_in s m hm1 (by omega)
  have hz := free_stop s m m (by omega) (by omega)
  generalize stateS s (m : Int) = S at *
  have hne : (S != 0) = true := by simpa using hz
  have hm0 : ((m : Int) == 0) = false := by simp; omega
  clear this hN hm hF hz
  go_enter Try.func4, Try.ntmps4
  go_wp2_with (with_reducible refine (shown9_any _).mono ?_; rintro e w1 ⟨rfl, b1⟩)
  go_wp2_with (with_reducible refine (hR _).mono ?_; rintro e w2 ⟨rfl, rfl⟩)
  go_wp2_with (with_reducible refine (hNx _).mono ?_; rintro e w3 ⟨rfl, b3⟩)
  go_wp2_with (with_reducible refine (hS _).mono ?_; rintro e w4 ⟨rfl, b4⟩)
  go_ret
  exact ⟨rfl, bthen (bthen b1 b3) b4⟩

set_option maxHeartbeats 1000000 in
theorem next_some (s : ByteArray) (m F K : Nat) (h : s.size ≤ 400) (hN : placeN s = m + 1) (hm1 : 1 ≤ m) (hm12 : m ≤ 12) (hF : free s m = F) (hF1 : 1 ≤ F) (hFm : F ≤ m) (hK : K = m - F + 1) (w : World) :
    Calls Try.prog 4 #[.string s] w fun e w' => e = .returned (.bool true) ∧ Below w.heap.size w w' := by
  have hm : s.size ≤ maxLen := by unfold maxLen; omega
  have hR := rslots_at hN
  have hNx := Next_any s hm
  have : nextS s = (K : Int) := by unfold nextS; rw [hN, show m + 1 - 1 = m by omega, hF, if_neg (by omega)]; omega
  rw [this] at hNx
  have hz : ∀ j : Nat, K ≤ j → j ≤ m → ∀ w, Calls Try.prog 11 #[.string s, .int .i64 (j : Int)] w fun e w' => e = .returned (.int .i64 0) ∧ Below w.heap.size w w' := fun j h1 h2 w => by
    have := rState_in s j (by omega) (by omega) w
    rw [free_zero s m j (by omega) h2] at this
    exact this
  have hlast : 1 < K → ∃ S : Int, (S != 0) = true ∧ ∀ w, Calls Try.prog 11 #[.string s, .int .i64 ((K : Int) - 1)] w fun e w' => e = .returned (.int .i64 S) ∧ Below w.heap.size w w' := fun h1 => by
    refine ⟨stateS s ((K - 1 : Nat) : Int), ?_, fun w => ?_⟩
    · have := free_stop s m (K - 1) (by omega) (by omega)
      simpa using this
    · have := rState_in s (K - 1) (by omega) (by omega) w
      rw [show ((K : Int) - 1) = ((K - 1 : Nat) : Int) by omega]
      exact this
  have hK1 : 1 ≤ K := by omega
  have hKm : K ≤ m := by omega
  have hm0 : ((m : Int) == 0) = false := by simp; omega
  have hk0 : ((K : Int) == 0) = false := by simp; omega
  have d1 : decide ((K : Int) < 1) = false := by simp; omega
  have d2 : decide ((m : Int) < (K : Int)) = false := by simp; omega
  have d2' : decide (m < K) = false := by simp; omega
  have HZ := Lib.hid hz
  have HL := Lib.hid hlast
  clear this hN hm hF hz hlast hK hF1 hFm
  go_enter Try.func4, Try.ntmps4
  go_wp2_with (with_reducible refine (shown9_any _).mono ?_; rintro e w1 ⟨rfl, b1⟩)
  go_wp2_with (with_reducible refine (hR _).mono ?_; rintro e w2 ⟨rfl, rfl⟩)
  go_wp2_with (with_reducible refine (hNx _).mono ?_; rintro e w3 ⟨rfl, b3⟩)
  have B3 := bthen b1 b3
  go_wp2_with fail
  go_loopw [5] (fun i wr => ∃ j : Nat, K ≤ j ∧ j ≤ m + 1 ∧ i = .int .i64 j ∧ Below w.heap.size w wr) (fun i _ => m + 1 - (intOf i).toNat)
  case atStart => exact ⟨K, by omega, by omega, rfl, B3⟩
  case round =>
    obtain ⟨j, hj1, hj2, rfl, br⟩ := hrel
    by_cases hlt : j ≤ m
    · have hS := HZ.out j hj1 hlt
      go_wp2_with (with_reducible refine (hS _).mono ?_; rintro e w4 ⟨rfl, b4⟩)
      go_roundw
      case rel => exact ⟨j + 1, by omega, by omega, by go_num, bthen br b4⟩
      case measure => simp [intOf]; omega
    · have d3 : decide ((j : Int) ≤ (m : Int)) = false := by simp; omega
      by_cases hk1 : K = 1
      · have e1 : ((K : Int) == 1) = true := by simp; omega
        clear hk1
        go_wp2_with fail
        go_ret
        exact ⟨rfl, br⟩
      · have e1 : ((K : Int) == 1) = false := by simp; omega
        obtain ⟨S, hne, hS⟩ := HL.out (by omega)
        clear hk1
        go_wp2_with (with_reducible refine (hS _).mono ?_; rintro e w4 ⟨rfl, b4⟩)
        go_ret
        exact ⟨rfl, bthen br b4⟩

theorem ScanNext_walk (s : ByteArray) (hs : s.size ≤ maxLen) (w : World) :
    Calls Try.prog 4 #[.string s] w fun e w' => e = .returned (.bool true) ∧ Below w.heap.size w w' := by
  by_cases h : 400 < s.size
  · exact next_out s h hs w
  · by_cases hN : placeN s = 0
    · exact next_none s (by omega) hN w
    · obtain ⟨g1, g2, g3⟩ := placeN_pos (by omega : 0 < placeN s)
      obtain ⟨m, hm⟩ : ∃ m : Nat, placeN s = m + 1 := ⟨placeN s - 1, by omega⟩
      by_cases hF : free s m = 0
      · exact next_full s m (by omega) hm (by omega) (by omega) hF w
      · exact next_some s m (free s m) (m - free s m + 1) (by omega) hm (by omega) (by omega) rfl (by omega) (free_le s m) rfl w
end Go.Proofs.Ytopcklbeppiipaa
