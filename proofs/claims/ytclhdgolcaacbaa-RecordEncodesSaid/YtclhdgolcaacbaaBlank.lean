/- bits.ReverseBytes32: what it answers. -/
import Derived.Test.YtclhdgolcaacbaaField
import Derived.Test.YtclhdgolcaacbaaBlankF
namespace Go.Proofs.Ytclhdgolcaacbaa
open Go.RowKit
set_option linter.unusedVariables false
set_option linter.unusedSimpArgs false

namespace Crc
theorem bits_or (c d : W) : bits .or .u32 (c.toNat : Int) (d.toNat : Int) = ((c ||| d).toNat : Int) := by
  show IntKind.u32.wrap ((BitVec.ofInt 32 _ ||| BitVec.ofInt 32 _).toNat : Int) = _
  rw [ofInt32, ofInt32]; exact wrap32u _ (c ||| d).isLt
theorem shr8 (c : W) : (c.toNat : Int) / (256 : Int) = ((c >>> 8).toNat : Int) := by
  rw [BitVec.toNat_ushiftRight, Nat.shiftRight_eq_div_pow]; rfl
theorem shr16 (c : W) : (c.toNat : Int) / (65536 : Int) = ((c >>> 16).toNat : Int) := by
  rw [BitVec.toNat_ushiftRight, Nat.shiftRight_eq_div_pow]; rfl
theorem shl8 (c : W) : (c.toNat : Int) * (256 : Int) % (4294967296 : Int) = ((c <<< 8).toNat : Int) := by
  rw [BitVec.toNat_shiftLeft, Nat.shiftLeft_eq]; rfl
theorem shl16 (c : W) : (c.toNat : Int) * (65536 : Int) % (4294967296 : Int) = ((c <<< 16).toNat : Int) := by
  rw [BitVec.toNat_shiftLeft, Nat.shiftLeft_eq]; rfl
theorem m8 : (16711935 : Int) = ((16711935#32 : W).toNat : Int) := rfl

/-- the bytes of a word the other way round -/
def rev32 (x : W) : W := (((x >>> 8) &&& 16711935#32) ||| ((x &&& 16711935#32) <<< 8)) >>> 16 ||| (((x >>> 8) &&& 16711935#32) ||| ((x &&& 16711935#32) <<< 8)) <<< 16

theorem Rev_any (x : W) (w : World) :
    Calls Try.prog 23 #[u32 x] w fun e w' => e = .returned (u32 (rev32 x)) ∧ w = w' := by
  go_enter Try.func23, Try.ntmps23
  go_wp2
  go_ret
  refine ⟨ret_int ?_, rfl⟩
  rw [m8]
  rw [shr8, bits_and, bits_and, shl8, bits_or, shr16, shl16, bits_or]
  rfl

/-- the bytes of a word, the lowest one first -/
def lowL (x : W) : List UInt8 := [⟨x.extractLsb' 0 8⟩, ⟨x.extractLsb' 8 8⟩, ⟨x.extractLsb' 16 8⟩, ⟨x.extractLsb' 24 8⟩]

theorem byte_of (x : W) (k : Nat) : UInt8.ofNat (x.toNat / 2 ^ k) = ⟨x.extractLsb' k 8⟩ := by
  apply UInt8.eq_of_toBitVec_eq
  apply BitVec.eq_of_toNat_eq
  rw [BitVec.extractLsb'_toNat, Nat.shiftRight_eq_div_pow]
  simp

theorem rev_at (x : W) (i : Nat) (hi : i < 8) : (rev32 x).getLsbD (24 + i) = x.getLsbD i ∧ (rev32 x).getLsbD (16 + i) = x.getLsbD (8 + i) ∧ (rev32 x).getLsbD (8 + i) = x.getLsbD (16 + i) ∧ (rev32 x).getLsbD i = x.getLsbD (24 + i) := by
  have h0 : ∀ j, j < 32 → (16711935#32 : W).getLsbD j = (decide (j < 8) || (decide (16 ≤ j) && decide (j < 24))) := by decide
  unfold rev32
  rcases (show i = 0 ∨ i = 1 ∨ i = 2 ∨ i = 3 ∨ i = 4 ∨ i = 5 ∨ i = 6 ∨ i = 7 from by omega) with rfl | rfl | rfl | rfl | rfl | rfl | rfl | rfl <;>
    simp [BitVec.getLsbD_or, BitVec.getLsbD_and, BitVec.getLsbD_ushiftRight, BitVec.getLsbD_shiftLeft, h0]

theorem putL_rev (x : W) : putL (rev32 x).toNat 4 = lowL x := by
  rw [putL_cons, putL_cons, putL_cons, putL_cons]
  unfold lowL
  have e1 := byte_of (rev32 x) 24
  have e2 := byte_of (rev32 x) 16
  have e3 := byte_of (rev32 x) 8
  have e4 := byte_of (rev32 x) 0
  rw [show (256 : Nat) ^ 3 = 2 ^ 24 from by decide, show (256 : Nat) ^ 2 = 2 ^ 16 from by decide, show (256 : Nat) ^ 1 = 2 ^ 8 from by decide, show (256 : Nat) ^ 0 = 2 ^ 0 from by decide, e1, e2, e3, e4]
  have key : ∀ (a b : Nat), (∀ i, i < 8 → (rev32 x).getLsbD (a + i) = x.getLsbD (b + i)) → (rev32 x).extractLsb' a 8 = x.extractLsb' b 8 := fun a b h => by
    apply BitVec.eq_of_getLsbD_eq
    intro i hi
    rw [BitVec.getLsbD_extractLsb', BitVec.getLsbD_extractLsb', h i hi]
  rw [key 24 0 (fun i hi => by rw [Nat.zero_add]; exact (rev_at x i hi).1), key 16 8 (fun i hi => (rev_at x i hi).2.1), key 8 16 (fun i hi => (rev_at x i hi).2.2.1), key 0 24 (fun i hi => by rw [Nat.zero_add]; exact (rev_at x i hi).2.2.2)]
  rfl
end Crc
end Go.Proofs.Ytclhdgolcaacbaa
