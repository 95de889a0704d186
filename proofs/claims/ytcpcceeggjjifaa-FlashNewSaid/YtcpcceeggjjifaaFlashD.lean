/- dogwatchref03.New; the walk of the law FlashNew. -/
import Derived.Test.YtcpcceeggjjifaaFlashL
import Derived.Test.YtcpcceeggjjifaaFlashEq
import Derived.Test.YtcpcceeggjjifaaRef03
import Derived.Test.YtcpcceeggjjifaaOpenFlash
namespace Go.Proofs.Ytcpcceeggjjifaa
open Go.RowKit
set_option linter.unusedVariables false
set_option linter.unusedSimpArgs false

theorem rNew_any (n l : Int) (w : World) : Calls Try.prog 12 #[.int .i64 n, .int .i64 l] w fun e w' => e = .returned (flV (newF n l)) ∧ Below w.heap.size w w' := by
  have k0 := Blk.new w 26 #[.string ⟨#[]⟩, .string ⟨#[]⟩, .int .i64 0, .int .i64 0, .int .i64 0]
  have B0 : ∀ o, Below w.heap.size w (w.alloc o) := fun o => (Below.refl _ w).alloc (Nat.le_refl _) o
  by_cases h : n < 0 ∨ 400 < n ∨ l < 0 ∨ 1000 < l
  · have hF : newF n l = ⟨⟨#[]⟩, ⟨#[]⟩, 0, 0, 0⟩ := if_pos h
    rw [hF]
    have hc : n < 0 ∨ (0 ≤ n ∧ 400 < n) ∨ (0 ≤ n ∧ n ≤ 400 ∧ l < 0) ∨ (0 ≤ n ∧ n ≤ 400 ∧ 0 ≤ l ∧ 1000 < l) := by omega
    clear h
    rcases hc with h1 | ⟨h1, h2⟩ | ⟨h1, h2, h3⟩ | ⟨h1, h2, h3, h4⟩
    all_goals
      go_enter Try.func12, Try.ntmps12
      go_wp2
      exact bodyPost_ret (v := flV ⟨⟨#[]⟩, ⟨#[]⟩, 0, 0, 0⟩) (by simp [results, Try.results12, go_sem]) rfl ⟨rfl, B0 _⟩
  · have hF : newF n l = ⟨fullB n.toNat, fullB n.toNat, 0, 0, l⟩ := if_neg h
    rw [hF]
    obtain ⟨n, rfl⟩ := Int.eq_ofNat_of_zero_le (show 0 ≤ n by omega)
    have h2 : (n : Int) ≤ 400 := by omega
    have h3 : 0 ≤ l := by omega
    have h4 : l ≤ 1000 := by omega
    clear h
    rw [Int.toNat_natCast]
    have hb := rblank_any n (by omega)
    generalize fullB n = F at *
    go_enter Try.func12, Try.ntmps12
    go_wp2_with (with_reducible refine (hb _).mono ?_; rintro e w1 ⟨rfl, rfl⟩)
    exact bodyPost_ret (v := flV ⟨F, F, 0, 0, l⟩) (by simp [results, Try.results12, go_sem]) rfl ⟨rfl, B0 _⟩

theorem FlashNew_walk (n l : Int) (s : ByteArray) (hn : (Lit.int .i64 n).wf = true) (hl : (Lit.int .i64 l).wf = true) (hs : s.size ≤ maxLen) (w : World) :
    Calls Try.prog 3 #[.int .i64 n, .int .i64 l, .string s] w fun e w' => e = .returned (.bool true) ∧ Below w.heap.size w w' := by
  by_cases h : 500 < s.size
  · unfold maxLen at hs
    go_enter Try.func3, Try.ntmps3
    go_wp2_with (first | (with_reducible refine (shown_any _).mono ?_; rintro e w2 ⟨rfl, b2⟩))
    go_ret
    exact ⟨rfl, b2⟩
  · have h1 := New_any n l
    have h2 := rNew_any n l
    have h3 := its_any (newF n l)
    have h4 := Blank_any s
    have h5 := rBlank_any s (by omega)
    generalize newF n l = F at *
    generalize blankS s = x at *
    dsimp only [flV] at h1 h2 h3
    have q1 := eq_strs F.a F.b F.a F.b
    have q2 := eq_ints F.x F.y F.x F.y
    simp at q1 q2
    go_enter Try.func3, Try.ntmps3
    go_wp2_with (with_reducible refine (shown_any _).mono ?_)
    rintro e w2 ⟨rfl, b2⟩
    go_wp2_with (with_reducible refine (h1 _).mono ?_)
    rintro e w3 ⟨rfl, b3⟩
    go_wp2_with (with_reducible refine (h3 _).mono ?_)
    rintro e w4 ⟨rfl, b4⟩
    go_wp2_with (with_reducible refine (h2 _).mono ?_)
    rintro e w5 ⟨rfl, b5⟩
    have B5 := bthen (bthen (bthen b2 b3) b4) b5
    go_wp2_with (first | ((with_reducible refine (h4 _).mono ?_); rintro e w6 ⟨rfl, rfl⟩) | ((with_reducible refine (h5 _).mono ?_); rintro e w7 ⟨rfl, rfl⟩))
    go_ret
    exact ⟨ret_bool (by simp), B5⟩
end Go.Proofs.Ytcpcceeggjjifaa
