/- record.Decode at any bytes; record.Good. -/
import Derived.Test.YtclhdgolcaacbaaDecM
namespace Go.Proofs.Ytclhdgolcaacbaa
open Go.RowKit
set_option linter.unusedVariables false
set_option linter.unusedSimpArgs false

theorem Decode_any (s : ByteArray) (hm : s.size ≤ maxLen) (w : World) :
    Calls Try.prog 17 #[.string s] w fun e w' => e = .returned (decV s) ∧ Below w.heap.size w w' := by
  by_cases hs : s.size = 24
  · by_cases hbl : blankS s = true
    · have hd : dec s = (0, 0, 0, 5) := by unfold dec; rw [if_neg (by simp [hs]), if_pos hbl]
      have kR := Blk.new w 24 #[.int .i64 0, .int .u64 0, .int .u64 0]
      have B1 : Below w.heap.size w (w.alloc (.cells #[.int .i64 0, .int .u64 0, .int .u64 0] 24)) := (Below.refl _ w).alloc (Nat.le_refl _) _
      go_enter Try.func17, Try.ntmps17
      go_wp2_with (first | (with_reducible refine (Blank_any _ _).mono ?_; rintro e w1 ⟨rfl, rfl⟩))
      exact dec_end s w _ _ 0 0 0 5 rfl rfl rfl kR B1 hd
    · by_cases hmg : byteAt s 0 = 165
      · exact Decode_main s hs (by simpa using hbl) hmg w
      · exact Decode_magic s hs (by simpa using hbl) hmg w
  · have hd : dec s = (0, 0, 0, 1) := by unfold dec; rw [if_pos hs]
    have hne : ((s.size : Int) != 24) = true := by simp; omega
    have kR := Blk.new w 24 #[.int .i64 0, .int .u64 0, .int .u64 0]
    have B1 : Below w.heap.size w (w.alloc (.cells #[.int .i64 0, .int .u64 0, .int .u64 0] 24)) := (Below.refl _ w).alloc (Nat.le_refl _) _
    go_enter Try.func17, Try.ntmps17
    go_wp2
    exact dec_end s w _ _ 0 0 0 1 rfl rfl rfl kR B1 hd

def goodB (s : ByteArray) : Bool := decide (decE s = 0)
theorem dec_good (s : ByteArray) (h : decE s = 0) : 1 ≤ decK s := by
  unfold decE at h
  unfold decK
  revert h
  unfold dec
  repeat' split
  all_goals simp
  omega

theorem Good_any (s : ByteArray) (hm : s.size ≤ maxLen) (w : World) :
    Calls Try.prog 19 #[.string s] w fun e w' => e = .returned (.bool (goodB s)) ∧ Below w.heap.size w w' := by
  by_cases h : decE s = 0
  · have hg : goodB s = true := by simp [goodB, h]
    have h1 := dec_good s h
    have hV := fun W => Decode_any s hm W
    unfold decV at hV
    rw [h] at hV
    obtain ⟨k, hk⟩ : ∃ k, k = decK s := ⟨_, rfl⟩
    obtain ⟨n, hn⟩ : ∃ n, n = decN s := ⟨_, rfl⟩
    obtain ⟨d, hd⟩ : ∃ d, d = decD s := ⟨_, rfl⟩
    rw [← hk, ← hn, ← hd] at hV
    rw [← hk] at h1
    clear hk hn hd h
    have h2 : ((k : Int) == 0) = false := by simp; omega
    go_enter Try.func19, Try.ntmps19
    go_wp2_with (first | (with_reducible refine (hV _).mono ?_; rintro e w1 ⟨rfl, hb1⟩))
    go_ret
    exact ⟨by rw [hg]; rfl, hb1.alloc hb1.size _⟩
  · have hg : goodB s = false := by simp [goodB, h]
    have hV := fun W => Decode_any s hm W
    unfold decV at hV
    obtain ⟨E, hE⟩ : ∃ E, E = decE s := ⟨_, rfl⟩
    rw [← hE] at hV h
    have h2 : (E == 0) = false := by simp; exact h
    clear hE
    go_enter Try.func19, Try.ntmps19
    go_wp2_with (first | (with_reducible refine (hV _).mono ?_; rintro e w1 ⟨rfl, hb1⟩))
    go_ret
    exact ⟨by rw [hg]; rfl, hb1.alloc hb1.size _⟩
end Go.Proofs.Ytclhdgolcaacbaa
