/- dogwatchref01.May, where it may be. -/
import Derived.Test.YthagnnaemcknfaaRef01
namespace Go.Proofs.Ythagnnaemcknfaa
open Go.RowKit
set_option linter.unusedVariables false
set_option linter.unusedSimpArgs false

theorem bits8 : bits .and .u8 1 1 = 1 ∧ bits .and .u8 1 0 = 0 ∧ bits .and .u8 0 1 = 0 ∧ bits .and .u8 0 0 = 0 := by decide
/-- a bit that may come: what it was, or cleared -/
def mayBit (o w g : Bool) : Bool := (g == o) || (g == (o && w))
theorem mayBit_cases {o w g : Bool} (h : mayBit o w g = true) : (o = true ∧ w = true ∧ g = true) ∨ (o = true ∧ w = false ∧ g = true) ∨ (o = true ∧ w = false ∧ g = false) ∨ (o = false ∧ w = true ∧ g = false) ∨ (o = false ∧ w = false ∧ g = false) := by
  revert h; cases o <;> cases w <;> cases g <;> decide

set_option maxHeartbeats 4000000 in
theorem rMay_yes (s d t : ByteArray) (hs : s.size ≤ 500) (hz : t.size = s.size)
    (h : ∀ k, k < s.size → ∀ j, j < 8 → mayBit ((byteOr s 0 k).toBitVec.getLsbD j) ((byteOr d 255 k).toBitVec.getLsbD j) ((byteOr t 0 k).toBitVec.getLsbD j) = true) (w : World) :
    Calls Try.prog 9 #[.string s, .string d, .string t] w fun e w' => e = .returned (.bool true) ∧ w = w' := by
  have H := Lib.hid h
  clear h
  have HZ := Lib.hid hz
  have hts : t.size ≤ 500 := by omega
  have hne : ((t.size : Int) != (s.size : Int)) = false := by simp; omega
  have hne2 : (t.size != s.size) = false := by simp; omega
  clear hz
  obtain ⟨p1, p2, p3, p4⟩ := bits8
  go_enter Try.func9, Try.ntmps9
  go_wp2
  clear hne hne2
  go_loop [7, 8, 9, 10, 11] (fun i b x y z => ∃ (k : Nat), k ≤ s.size ∧ i = .int .i64 k) (fun i _ _ _ _ => s.size - (intOf i).toNat)
  case atStart => exact ⟨0, by omega, rfl⟩
  case round =>
    obtain ⟨k, hk, rfl⟩ := hrel
    by_cases hlt : k < s.size
    · have hk1 : k < 1000 := by omega
      have hkt : k < t.size := by have := HZ.out; omega
      have hx := H.out k hlt
      rw [byteOr_lt s 0 k hlt, byteOr_lt t 0 k hkt] at hx
      have HX := Lib.hid hx
      clear hx
      go_wp2
      go_loop [8, 9, 10, 11] (fun b x y z => ∃ (j : Nat), j ≤ 8 ∧ b = .int .i64 j) (fun b _ _ _ => 8 - (intOf b).toNat)
      case atStart => exact ⟨0, by omega, rfl⟩
      case round =>
        obtain ⟨j, hj, rfl⟩ := hrel
        by_cases hjl : j < 8
        · have hj64 : j < 64 := by omega
          have q1 := bit_of s[k] j hjl
          have q2 := bit_of t[k] j hjl
          have q3 := bit_of (byteOr d 255 k) j hjl
          have hc := mayBit_cases (HX.out j hjl)
          rcases hc with ⟨b1, b2, b3⟩ | ⟨b1, b2, b3⟩ | ⟨b1, b2, b3⟩ | ⟨b1, b2, b3⟩ | ⟨b1, b2, b3⟩
          all_goals
            simp only [b1, b2, b3, if_true, if_false, Bool.false_eq_true, reduceIte] at q1 q2 q3
            clear b1 b2 b3
            go_wp2_with (with_reducible refine (at_any d k 255 255 rfl hk1 _).mono ?_; rintro e w3 ⟨rfl, rfl⟩)
            go_round
            case rel => exact ⟨j + 1, by omega, by go_num⟩
            case measure => simp [intOf]; omega
        · obtain rfl : j = 8 := by omega
          go_wp2
          go_round
          case rel => exact ⟨k + 1, by omega, by go_num⟩
          case measure => simp [intOf]; omega
    · obtain rfl : k = s.size := by omega
      go_wp2
      go_ret
      exact ⟨rfl, rfl⟩
end Go.Proofs.Ythagnnaemcknfaa
