/- dogwatchref03.blank, Blank. -/
import Derived.Test.YtclhdgolcaacbaaFull
namespace Go.Proofs.Ytclhdgolcaacbaa
open Go.RowKit
set_option linter.unusedVariables false
set_option linter.unusedSimpArgs false

theorem rblank_any (n : Nat) (hn : n ≤ 1000) (w : World) :
    Calls Try.prog 39 #[.int .i64 (n : Int)] w fun e w' => e = .returned (.string (fullB n)) ∧ w = w' := by
  go_enter Try.func39, Try.ntmps39
  go_wp2
  go_loopw [3, 4] (fun v i wr => ∃ j : Nat, j ≤ n ∧ i = .int .i64 j ∧ v = .string (fullB j) ∧ wr = w) (fun _ i _ => n - (intOf i).toNat)
  case atStart => exact ⟨0, by omega, rfl, rfl, rfl⟩
  case round =>
    obtain ⟨j, hj, rfl, rfl, rfl⟩ := hrel
    by_cases hlt : j < n
    · have hcat := Lib.hid (fullB_succ j)
      have hfs := fullB_size j
      go_wp2
      go_roundw
      case rel => exact ⟨j + 1, by omega, by go_num, by rw [← hcat.out], by trivial⟩
      case measure => simp [intOf]; omega
    · have hj2 : j = n := by omega
      subst hj2
      go_wp2
      go_ret
      exact ⟨rfl, rfl⟩

theorem full_blank (s : ByteArray) : (s.toList == (fullB s.size).toList) = blankS s := by
  rw [toList_data, toList_data, Bool.eq_iff_iff, beq_iff_eq]
  unfold blankS fullB
  have hl : s.data.toList.length = s.size := by simp
  rw [List.all_eq_true, ← hl]
  constructor
  · intro h x hx
    rw [h] at hx
    exact beq_iff_eq.2 (List.eq_of_mem_replicate hx)
  · intro h
    exact List.eq_replicate_iff.2 ⟨rfl, fun x hx => beq_iff_eq.1 (h x hx)⟩

theorem rBlank_any (s : ByteArray) (hs : s.size ≤ 1000) (w : World) :
    Calls Try.prog 32 #[.string s] w fun e w' => e = .returned (.bool (blankS s)) ∧ w = w' := by
  have h := full_blank s
  obtain ⟨F, hF⟩ : ∃ F, F = fullB s.size := ⟨_, rfl⟩
  have hb : ∀ W, Calls Try.prog 39 #[.int .i64 (s.size : Int)] W fun e w' => e = .returned (.string F) ∧ W = w' := fun W => by rw [hF]; exact rblank_any s.size hs W
  rw [← hF] at h
  clear hF
  go_enter Try.func32, Try.ntmps32
  go_wp2_with (with_reducible refine (hb _).mono ?_; rintro e w' ⟨rfl, rfl⟩)
  go_ret
  exact ⟨rfl, rfl⟩

end Go.Proofs.Ytclhdgolcaacbaa
