/- dogwatchref06.Put at width 8. -/
import Derived.Test.YtclhdgolcaacbaaRef06
import Derived.Test.YtclhdgolcaacbaaBytesApp
namespace Go.Proofs.Ytclhdgolcaacbaa
open Go.RowKit
set_option linter.unusedVariables false
set_option linter.unusedSimpArgs false

set_option maxHeartbeats 2000000 in
theorem rPut8 (n : Nat) (hn : n < 18446744073709551616) (w : World) :
    Calls Try.prog 25 #[.int .u64 (n : Int), .int .i64 8] w fun e w' => e = .returned (.string (putB n 8)) ∧ Below w.heap.size w w' := by
  go_enter Try.func25, Try.ntmps25
  go_wp2
  go_loopw [5, 6] (fun v i wr => ∃ (k : Nat), k ≤ 8 ∧ i = .int .i64 (7 - (k : Int)) ∧ OwnsB wr w.heap.size v (putL (n / 256 ^ (8 - k)) k) ∧ Below w.heap.size w wr) (fun _ i _ => (intOf i + 1).toNat)
  case atStart => exact ⟨0, by omega, rfl, by exact World.ownsRow_lit w #[] 0 (Nat.le_refl _) (by decide) rfl, (Below.refl _ w).alloc (Nat.le_refl _) _⟩
  case round =>
    obtain ⟨k, hk, rfl, hown, hbr⟩ := hrel
    by_cases hlt : k < 8
    · obtain ⟨j, hj⟩ : ∃ j : Nat, j = 7 - k := ⟨_, rfl⟩
      have hij : (7 - (k : Int)) = (j : Int) := by omega
      have hk8 : 8 - k = j + 1 := by omega
      have hk9 : 8 - (k + 1) = j := by omega
      obtain ⟨m, hm⟩ : ∃ m, m = n / 256 ^ j := ⟨_, rfl⟩
      have hpow : (256 : Nat) ^ j = 2 ^ (8 * j) := by rw [Nat.pow_mul]
      have hnx : putL (n / 256 ^ j) (k + 1) = putL (n / 256 ^ (j + 1)) k ++ [UInt8.ofNat m] := by
        rw [hm, putL, Nat.div_div_eq_div_mul, Nat.pow_succ]
      rw [hk8] at hown
      have h8j : IntKind.i64.wrap (8 * (j : Int)) = ((8 * j : Nat) : Int) := by rw [IntWalk.i64_in _ (by omega)]; omega
      have hmb : (n : Int) / 2 ^ (8 * j) = (m : Int) := by rw [hm, hpow]; norm_cast
      have hln : (putL (n / 256 ^ (j + 1)) k).length + 1 ≤ 140737488355328 := by rw [putL_length]; omega
      have hu8 : (((UInt8.ofNat m).toNat : Nat) : Int) = (m : Int) % 256 := by simp
      simp only [hij]
      have HNX := Lib.hid hnx
      have hj7 : j ≤ 7 := by omega
      have HJ := Lib.hid hj
      have HK := Lib.hid hk9
      clear hnx hm hij hj hk8 hk9 hpow
      go_wp2_with (first | (at_builtin; refine list_append_byte (b := UInt8.ofNat m) _ rfl _ _ rfl rfl rfl (hown.below ((Below.refl _ _).alloc (Nat.le_refl _) _)) (by simp) hln (by simp; have := hbr.size; omega) ?_))
      intro v4 w4 ho4 hb4
      have B4 := (hbr.alloc hbr.size (.cells #[.int .u8 ((m : Int) % 256)] 5)).trans hb4
      clear hb4 hbr hown
      go_wp2
      go_roundw
      case rel => exact ⟨k + 1, by omega, by first | rfl | go_num | (have := HJ.out; congr 1; omega), by rw [HK.out, HNX.out]; exact ho4, B4⟩
      case measure => (simp [intOf] <;> omega)
    · have hk2 : k = 8 := by omega
      subst hk2
      have e1 : putL (n / 256 ^ (8 - 8)) 8 = putL n 8 := by simp
      rw [e1] at hown
      have hcv := conv_own hown
      go_wp2
      go_ret
      exact ⟨rfl, hbr⟩
end Go.Proofs.Ytclhdgolcaacbaa
