/- dogwatchref07.low, Mark, Body, Encode. -/
import Derived.Test.YtclhdgolcaacbaaRef06
import Derived.Deep.RegionWith
namespace Go.Proofs.Ytclhdgolcaacbaa
open Go.RowKit
set_option linter.unusedVariables false
set_option linter.unusedSimpArgs false

theorem rMark_any (w : World) : Calls Try.prog 15 #[] w fun e w' => e = .returned (.string ⟨#[90, 60]⟩) ∧ Below w.heap.size w w' := by
  have hcv : ∀ W : World, (convert 41 9 (.slice (some ⟨W.heap.size, 0, none⟩) 2 2)).run Try.prog (W.alloc (.cells #[.int .u8 90, .int .u8 60] 5)) = .ok (.string ⟨#[90, 60]⟩) (W.alloc (.cells #[.int .u8 90, .int .u8 60] 5)) := fun W =>
    conv_cells _ W.heap.size 0 2 [90, 60] (by intro j hj; match j, hj with | 0, _ | 1, _ => simp)
  go_enter Try.func15, Try.ntmps15
  go_wp2
  go_ret
  exact ⟨rfl, (Below.refl _ w).alloc (Nat.le_refl _) _⟩

def lowB (x : Crc.W) : ByteArray := ⟨(Crc.lowL x).toArray⟩
theorem low_cells (w : World) (a b c d : UInt8) : (convert 41 9 (.slice (some ⟨w.heap.size, 0, none⟩) 4 4)).run Try.prog (w.alloc (.cells #[.int .u8 (a.toNat : Int), .int .u8 (b.toNat : Int), .int .u8 (c.toNat : Int), .int .u8 (d.toNat : Int)] 5)) = .ok (.string ⟨#[a, b, c, d]⟩) (w.alloc (.cells #[.int .u8 (a.toNat : Int), .int .u8 (b.toNat : Int), .int .u8 (c.toNat : Int), .int .u8 (d.toNat : Int)] 5)) :=
  conv_cells _ w.heap.size 0 4 [a, b, c, d] (by intro j hj; match j, hj with | 0, _ | 1, _ | 2, _ | 3, _ => simp)

theorem rlow_any (x : Crc.W) (w : World) : Calls Try.prog 26 #[Crc.u32 x] w fun e w' => e = .returned (.string (lowB x)) ∧ Below w.heap.size w w' := by
  have e0 : (x.toNat : Int) % 256 = (((⟨x.extractLsb' 0 8⟩ : UInt8).toNat : Nat) : Int) := by rw [← Crc.byte_of x 0]; simp
  have e1 : (x.toNat : Int) / 256 % 256 = (((⟨x.extractLsb' 8 8⟩ : UInt8).toNat : Nat) : Int) := by rw [← Crc.byte_of x 8]; simp
  have e2 : (x.toNat : Int) / 65536 % 256 = (((⟨x.extractLsb' 16 8⟩ : UInt8).toNat : Nat) : Int) := by rw [← Crc.byte_of x 16]; simp
  have e3 : (x.toNat : Int) / 16777216 = (((⟨x.extractLsb' 24 8⟩ : UInt8).toNat : Nat) : Int) := by rw [← Crc.byte_of x 24]; have := x.isLt; simp; omega
  have hl : lowB x = ⟨#[⟨x.extractLsb' 0 8⟩, ⟨x.extractLsb' 8 8⟩, ⟨x.extractLsb' 16 8⟩, ⟨x.extractLsb' 24 8⟩]⟩ := rfl
  generalize (⟨x.extractLsb' 0 8⟩ : UInt8) = a at *
  generalize (⟨x.extractLsb' 8 8⟩ : UInt8) = b at *
  generalize (⟨x.extractLsb' 16 8⟩ : UInt8) = c at *
  generalize (⟨x.extractLsb' 24 8⟩ : UInt8) = d at *
  rw [hl]
  clear hl
  have hcv : (convert 41 9 (.slice (some ⟨w.heap.size, 0, none⟩) 4 4)).run Try.prog (w.alloc (.cells #[.int .u8 ((x.toNat : Int) % 256), .int .u8 ((x.toNat : Int) / 256 % 256), .int .u8 ((x.toNat : Int) / 65536 % 256), .int .u8 ((x.toNat : Int) / 16777216)] 5)) = .ok (.string ⟨#[a, b, c, d]⟩) (w.alloc (.cells #[.int .u8 ((x.toNat : Int) % 256), .int .u8 ((x.toNat : Int) / 256 % 256), .int .u8 ((x.toNat : Int) / 65536 % 256), .int .u8 ((x.toNat : Int) / 16777216)] 5)) := by
    rw [e0, e1, e2, e3]; exact low_cells w a b c d
  clear e0 e1 e2 e3
  go_enter Try.func26, Try.ntmps26
  go_wp2
  go_ret
  exact ⟨rfl, (Below.refl _ w).alloc (Nat.le_refl _) _⟩
end Go.Proofs.Ytclhdgolcaacbaa
