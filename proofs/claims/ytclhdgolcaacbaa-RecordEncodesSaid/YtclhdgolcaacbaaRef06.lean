/- dogwatchref06.Get. -/
import Derived.Test.YtclhdgolcaacbaaDec
import Derived.Test.YtclhdgolcaacbaaRef03
namespace Go.Proofs.Ytclhdgolcaacbaa
open Go.RowKit
set_option linter.unusedVariables false
set_option linter.unusedSimpArgs false

theorem or_byte (n b : Nat) (hn : n < 72057594037927936) (hb : b < 256) : bits .or .u64 ((n : Int) * 256) (b : Int) = ((n * 256 + b : Nat) : Int) := by
  have h := u64_or_nat (n * 256) b (by omega) (by omega)
  rw [nat_join 8 (n * 256) b (by omega) (by omega)] at h
  rw [show ((n : Int) * 256) = ((n * 256 : Nat) : Int) by omega]
  exact h

set_option maxHeartbeats 1000000 in
theorem rGet_any (s : ByteArray) (hs : s.size ≤ 8) (W : World) :
    Calls Try.prog 33 #[.string s] W fun e w' => e = .returned (.int .u64 (getN s : Int)) ∧ W = w' := by
  go_enter Try.func33, Try.ntmps33
  go_wp2
  go_loopw [3, 4] (fun m i wr => ∃ k : Nat, k ≤ s.size ∧ i = .int .i64 k ∧ m = .int .u64 ((getL (s.data.toList.take k) : Nat) : Int) ∧ wr = W) (fun _ i _ => s.size - (intOf i).toNat)
  case atStart => exact ⟨0, by omega, rfl, rfl, rfl⟩
  case round =>
    obtain ⟨k, hk, rfl, rfl, rfl⟩ := hrel
    by_cases hlt : k < s.size
    · have hb := Crc.byte_at s k hlt
      have hg := getL_lt (s.data.toList.take k)
      have hl : (s.data.toList.take k).length = k := by simp; omega
      have hsn : getL (s.data.toList.take (k + 1)) = getL (s.data.toList.take k) * 256 + s[k].toNat := by rw [hb, getL_snoc]
      rw [hl] at hg
      have hp : 256 ^ k ≤ 256 ^ 7 := Nat.pow_le_pow_right (by decide) (by omega)
      have h8 : s[k].toNat < 256 := s[k].toNat_lt
      obtain ⟨n, hn⟩ : ∃ n, n = getL (s.data.toList.take k) := ⟨_, rfl⟩
      rw [← hn] at hg hsn
      simp only [← hn]
      have hn7 : n < 72057594037927936 := by have : (256 : Nat) ^ 7 = 72057594037927936 := by decide
                                             omega
      have ho := or_byte n s[k].toNat hn7 h8
      have hw : (n : Int) * 256 % 18446744073709551616 = (n : Int) * 256 := by omega
      have HN := Lib.hid hsn
      clear hn hsn hg hp hb hl
      go_wp2
      go_roundw
      case rel => exact ⟨k + 1, by omega, by go_num, by rw [HN.out]; go_num, by trivial⟩
      case measure => simp [intOf]; omega
    · have hk2 : k = s.size := by omega
      subst hk2
      have ht : getL (s.data.toList.take s.size) = getN s := by unfold getN; rw [List.take_of_length_le (by simp)]
      simp only [ht]
      go_wp2
      go_ret
      exact ⟨rfl, rfl⟩
end Go.Proofs.Ytclhdgolcaacbaa
