/- dogwatchref01.at, And, Bits (where no bit went). -/
import Derived.Test.YthagnnaemcknfaaAndB
import Derived.Test.YthagnnaemcknfaaBytesApp
import Derived.Deep.RegionHeld3
import Derived.Deep.DrawnRows
namespace Go.Proofs.Ythagnnaemcknfaa
open Go.RowKit
attribute [local go_sem ↓] Go.wp_at_zero Go.wp_at_succ
set_option linter.unusedVariables false
set_option linter.unusedSimpArgs false

theorem at_any (s : ByteArray) (i : Nat) (d : UInt8) (N : Int) (hN : N = (d.toNat : Int)) (hi : i < 1000) (w : World) :
    Calls Try.prog 16 #[.string s, .int .i64 (i : Int), .int .u8 N] w fun e w' => e = .returned (.int .u8 ((byteOr s d i).toNat : Int)) ∧ w = w' := by
  subst hN
  by_cases h : i < s.size
  · have e := byteOr_lt s d i h
    go_enter Try.func16, Try.ntmps16
    go_wp2
    go_ret
    exact ⟨ret_int (by rw [e]), rfl⟩
  · have e := byteOr_ge s d i (by omega)
    go_enter Try.func16, Try.ntmps16
    go_wp2
    go_ret
    exact ⟨ret_int (by rw [e]), rfl⟩

theorem take_byte (s : ByteArray) (k : Nat) (h : k < s.size) : s.data.toList.take (k + 1) = s.data.toList.take k ++ [byteOr s 0 k] := by
  rw [byteOr_lt s 0 k h, List.take_succ_eq_append_getElem (by simpa using h)]; rfl


/-- one bit of a byte -/
theorem bit_of (x : UInt8) (b : Nat) (hb : b < 8) : bits .and .u8 ((x.toNat : Int) / 2 ^ b) 1 = if x.toBitVec.getLsbD b then 1 else 0 := by
  have h : x.toBitVec.getLsbD b = x.toNat.testBit b := rfl
  rw [h, Nat.testBit_eq_decide_div_mod_eq]
  have e : ((x.toNat : Int) / 2 ^ b) = ((x.toNat / 2 ^ b : Nat) : Int) := by norm_cast
  have hx := x.toNat_lt
  have h2 : x.toNat / 2 ^ b < 256 := Nat.lt_of_le_of_lt (Nat.div_le_self _ _) hx
  have e2 := u8_and_nat (x.toNat / 2 ^ b) 1 h2 (by decide)
  rw [e, show (1 : Int) = ((1 : Nat) : Int) from rfl, e2, Nat.and_one_is_mod]
  have : x.toNat / 2 ^ b % 2 < 2 := Nat.mod_lt _ (by decide)
  by_cases h3 : x.toNat / 2 ^ b % 2 = 1
  · simp [h3]
  · have h4 : x.toNat / 2 ^ b % 2 = 0 := by omega
    simp [h4]
theorem bit_imp {x y : UInt8} (h : (x &&& ~~~y) = 0) (b : Nat) (hb : b < 8) (hx : x.toBitVec.getLsbD b = true) : y.toBitVec.getLsbD b = true := by
  have e := congrArg (fun z : UInt8 => z.toBitVec.getLsbD b) h
  simp only [UInt8.toBitVec_and, UInt8.toBitVec_not, BitVec.getLsbD_and, BitVec.getLsbD_not, hb, decide_true, Bool.true_and, hx] at e
  cases hy : y.toBitVec.getLsbD b
  · rw [hy] at e; simp at e
  · rfl

end Go.Proofs.Ythagnnaemcknfaa
