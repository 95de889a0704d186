/- Walks of package layout and of the document's answer for layer 5: Size, Slots, At. -/
import Derived.Test.YtopcklbeppiipaaBytes
namespace Go.Proofs.Ytopcklbeppiipaa
open Go.RowKit
set_option linter.unusedVariables false

def sizeL (n : Int) : Int := if 1 ≤ n ∧ n ≤ 12 then 24 * n + 24 else 0
def slotsL (z : Int) : Int := if z % 24 = 0 ∧ 48 ≤ z ∧ z ≤ 312 then z / 24 - 1 else 0
def atL (n : Int) : Int := if 0 ≤ n ∧ n ≤ 12 then 24 * n else -1
def markL (n : Int) : Int := if 0 ≤ n ∧ n ≤ 12 then 24 * n + 22 else -1
def evenL (n : Int) : Bool := decide (1 ≤ n ∧ n ≤ 12)

theorem between_yes (a b c : Int) (w : World) (h1 : b ≤ a) (h2 : a ≤ c) :
    Calls Try.prog 51 #[.int .i64 a, .int .i64 b, .int .i64 c] w fun e w' => e = .returned (.bool true) ∧ w = w' := by
  go_enter Try.func51, Try.ntmps51
  go_wp2
  go_ret
  exact ⟨rfl, rfl⟩

theorem between_no (a b c : Int) (w : World) (h : a < b ∨ c < a) :
    Calls Try.prog 51 #[.int .i64 a, .int .i64 b, .int .i64 c] w fun e w' => e = .returned (.bool false) ∧ w = w' := by
  by_cases h1 : b ≤ a
  · have h2 : c < a := by omega
    clear h
    go_enter Try.func51, Try.ntmps51
    go_wp2
    go_ret
    exact ⟨ret_bool (by simp; omega), rfl⟩
  · clear h
    go_enter Try.func51, Try.ntmps51
    go_wp2
    go_ret
    exact ⟨rfl, rfl⟩

theorem size_any (n : Int) (w : World) :
    Calls Try.prog 50 #[.int .i64 n] w fun e w' => e = .returned (.int .i64 (sizeL n)) ∧ w = w' := by
  by_cases h : 1 ≤ n ∧ n ≤ 12
  · obtain ⟨h1, h2⟩ := h
    go_enter Try.func50, Try.ntmps50
    go_wp2_with (refine (between_yes _ _ _ _ (by omega) (by omega)).mono ?_; rintro e w' ⟨rfl, rfl⟩)
    go_ret
    exact ⟨ret_int (by unfold sizeL; rw [if_pos ⟨h1, h2⟩]; omega), rfl⟩
  · have h' : n < 1 ∨ 12 < n := by omega
    go_enter Try.func50, Try.ntmps50
    go_wp2_with (refine (between_no _ _ _ _ (by omega)).mono ?_; rintro e w' ⟨rfl, rfl⟩)
    go_ret
    exact ⟨ret_int (by unfold sizeL; rw [if_neg h]), rfl⟩

theorem at_any (n : Int) (w : World) :
    Calls Try.prog 41 #[.int .i64 n] w fun e w' => e = .returned (.int .i64 (atL n)) ∧ w = w' := by
  by_cases h : 0 ≤ n ∧ n ≤ 12
  · obtain ⟨h1, h2⟩ := h
    go_enter Try.func41, Try.ntmps41
    go_wp2_with (refine (between_yes _ _ _ _ (by omega) (by omega)).mono ?_; rintro e w' ⟨rfl, rfl⟩)
    go_ret
    exact ⟨ret_int (by unfold atL; rw [if_pos ⟨h1, h2⟩]; omega), rfl⟩
  · have h' : n < 0 ∨ 12 < n := by omega
    go_enter Try.func41, Try.ntmps41
    go_wp2_with (refine (between_no _ _ _ _ (by omega)).mono ?_; rintro e w' ⟨rfl, rfl⟩)
    go_ret
    exact ⟨ret_int (by unfold atL; rw [if_neg h]), rfl⟩

theorem td24 (n : Int) : n = 24 * n.tdiv 24 + n.tmod 24 ∧ -24 < n.tmod 24 ∧ n.tmod 24 < 24 ∧ (0 ≤ n → 0 ≤ n.tmod 24) ∧ (n ≤ 0 → n.tmod 24 ≤ 0) := by
  refine ⟨(Int.mul_tdiv_add_tmod n 24).symm, ?_, ?_, fun h => Int.tmod_nonneg 24 h, fun h => ?_⟩
  · have := Int.lt_tmod_of_pos n (show (0 : Int) < 24 by decide); simpa using this
  · exact Int.tmod_lt_of_pos n (by decide)
  · have h2 := Int.tmod_nonneg (a := -n) 24 (by omega)
    rw [Int.neg_tmod] at h2
    omega

theorem slots_any (n : Int) (w : World) (hlo : -9223372036854775808 ≤ n) (hhi : n ≤ 9223372036854775807) :
    Calls Try.prog 40 #[.int .i64 n] w fun e w' => e = .returned (.int .i64 (slotsL n)) ∧ w = w' := by
  obtain ⟨hq, hr1, hr2, hr3, hr4⟩ := td24 n
  have hb1 : -9223372036854775000 ≤ n.tdiv 24 := by omega
  have hb2 : n.tdiv 24 ≤ 9223372036854775000 := by omega
  by_cases h : n.tmod 24 = 0
  · by_cases hz : 2 ≤ n.tdiv 24 ∧ n.tdiv 24 ≤ 13
    · have hs : sizeL (n.tdiv 24 - 1) = 24 * (n.tdiv 24 - 1) + 24 := by unfold sizeL; rw [if_pos (by omega)]
      have hne : (24 * (n.tdiv 24 - 1) + 24 == 0) = false := by simp; omega
      have hr : slotsL n = n.tdiv 24 - 1 := by unfold slotsL; rw [if_pos (by omega)]; omega
      have HS := Lib.hid hs; clear hs
      have HR := Lib.hid hr; clear hr hq
      go_enter Try.func40, Try.ntmps40
      go_wp2_with (refine (size_any _ _).mono ?_; rw [HS.out]; rintro e w' ⟨rfl, rfl⟩)
      go_ret
      exact ⟨ret_int HR.out.symm, rfl⟩
    · have hs : sizeL (n.tdiv 24 - 1) = 0 := by unfold sizeL; rw [if_neg (by omega)]
      have hr : slotsL n = 0 := by unfold slotsL; rw [if_neg (by omega)]
      have HS := Lib.hid hs; clear hs
      have HR := Lib.hid hr; clear hr hq
      go_enter Try.func40, Try.ntmps40
      go_wp2_with (refine (size_any _ _).mono ?_; rw [HS.out]; rintro e w' ⟨rfl, rfl⟩)
      go_ret
      exact ⟨ret_int HR.out.symm, rfl⟩
  · have hr : slotsL n = 0 := by unfold slotsL; rw [if_neg (by omega)]
    have HR := Lib.hid hr; clear hr hq
    go_enter Try.func40, Try.ntmps40
    go_wp2
    go_ret
    exact ⟨ret_int HR.out.symm, rfl⟩

/-! the document's -/

theorem rsize_any (n : Int) (w : World) :
    Calls Try.prog 21 #[.int .i64 n] w fun e w' => e = .returned (.int .i64 (sizeL n)) ∧ w = w' := by
  by_cases h1 : n < 1
  · go_enter Try.func21, Try.ntmps21
    go_wp2
    go_ret
    exact ⟨ret_int (by unfold sizeL; rw [if_neg (by omega)]), rfl⟩
  · by_cases h2 : 12 < n
    · go_enter Try.func21, Try.ntmps21
      go_wp2
      go_ret
      exact ⟨ret_int (by unfold sizeL; rw [if_neg (by omega)]), rfl⟩
    · go_enter Try.func21, Try.ntmps21
      go_wp2
      go_ret
      exact ⟨ret_int (by unfold sizeL; rw [if_pos (by omega)]), rfl⟩

theorem rslots_any (n : Int) (w : World) :
    Calls Try.prog 10 #[.int .i64 n] w fun e w' => e = .returned (.int .i64 (slotsL n)) ∧ w = w' := by
  go_enter Try.func10, Try.ntmps10
  go_wp2_with fail
  go_loop [3] (fun i => ∃ k : Int, 1 ≤ k ∧ k ≤ 13 ∧ (slotsL n = 0 ∨ k ≤ slotsL n) ∧ i = .int .i64 k) (fun i => (13 - intOf i).toNat)
  case atStart => exact ⟨1, by omega, by omega, by unfold slotsL; split <;> omega, rfl⟩
  case round =>
    obtain ⟨k, hk1, hk2, hs, rfl⟩ := hrel
    have HS := Lib.hid hs; clear hs
    by_cases hlt : k ≤ 12
    · have hz : sizeL k = 24 * k + 24 := by unfold sizeL; rw [if_pos (by omega)]
      have HZ := Lib.hid hz; clear hz
      by_cases he : 24 * k + 24 = n
      · subst he
        go_wp2_with (refine (rsize_any _ _).mono ?_; rw [HZ.out]; rintro e w' ⟨rfl, rfl⟩)
        go_ret
        exact ⟨ret_int (by unfold slotsL; rw [if_pos (by omega)]; omega), rfl⟩
      · have he' : (24 * k + 24 == n) = false := by simpa using he
        go_wp2_with (refine (rsize_any _ _).mono ?_; rw [HZ.out]; rintro e w' ⟨rfl, rfl⟩)
        go_round
        case rel => exact ⟨k + 1, by omega, by omega, by have := HS.out; unfold slotsL at *; split <;> split at this <;> omega, rfl⟩
        case measure => simp [intOf]; omega
    · go_wp2
      go_ret
      exact ⟨ret_int (by have := HS.out; unfold slotsL at *; split <;> split at this <;> omega), rfl⟩

end Go.Proofs.Ytopcklbeppiipaa
