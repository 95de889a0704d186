/- The walks of the laws CrcSums (and of what all laws of layer 2 share). -/
import Derived.Test.YtdgdhogbdiofbaaCrcB
namespace Go.Proofs.Ytdgdhogbdiofbaa.Crc
open Go.RowKit
set_option linter.unusedVariables false

theorem bthen {w w1 w2 : World} (h1 : Below w.heap.size w w1) (h2 : Below w1.heap.size w1 w2) : Below w.heap.size w w2 := h1.trans (h2.mono h1.size)

theorem shown1 (w : World) : Calls Try.prog 9 #[.string ⟨#[49, 50, 51, 52, 53, 54, 55, 56, 57]⟩] w fun e w' => e = .returned (.int .u32 3421780262) ∧ Below w.heap.size w w' := by
  have h : u32 (sumS ⟨#[49, 50, 51, 52, 53, 54, 55, 56, 57]⟩) = .int .u32 3421780262 := by kernel_rfl
  rw [← h]; exact Sum_any _ (by decide) w
theorem shown2 (w : World) : Calls Try.prog 9 #[.string ⟨#[]⟩] w fun e w' => e = .returned (.int .u32 0) ∧ Below w.heap.size w w' := by
  have h : u32 (sumS ⟨#[]⟩) = .int .u32 0 := by kernel_rfl
  rw [← h]; exact Sum_any _ (by decide) w
theorem shown3 (w : World) : Calls Try.prog 13 #[.string ⟨#[120, 49, 50, 51, 52, 53, 54, 55, 56, 57, 121]⟩, .int .i64 1, .int .i64 10] w fun e w' => e = .returned (.int .u32 3421780262) ∧ Below w.heap.size w w' := by
  have h : u32 (rangeW ⟨#[120, 49, 50, 51, 52, 53, 54, 55, 56, 57, 121]⟩ 1 10) = .int .u32 3421780262 := by kernel_rfl
  rw [← h]; exact Range_any _ (by decide) _ _ w
theorem shown4 (w : World) : Calls Try.prog 13 #[.string ⟨#[97, 98, 99]⟩, .int .i64 2, .int .i64 1] w fun e w' => e = .returned (.int .u32 0) ∧ Below w.heap.size w w' := by
  have h : u32 (rangeW ⟨#[97, 98, 99]⟩ 2 1) = .int .u32 0 := by kernel_rfl
  rw [← h]; exact Range_any _ (by decide) _ _ w

theorem shown_any (w : World) : Calls Try.prog 8 #[] w fun e w' => e = .returned (.bool true) ∧ Below w.heap.size w w' := by
  go_enter Try.func8, Try.ntmps8
  go_wp2_with (first
    | ((with_reducible refine (shown1 _).mono ?_); rintro e w1 ⟨rfl, hb1⟩)
    | ((with_reducible refine (shown2 _).mono ?_); rintro e w2 ⟨rfl, hb2⟩)
    | ((with_reducible refine (shown3 _).mono ?_); rintro e w3 ⟨rfl, hb3⟩)
    | ((with_reducible refine (shown4 _).mono ?_); rintro e w4 ⟨rfl, hb4⟩))
  go_ret
  exact ⟨rfl, bthen (bthen (bthen hb1 hb2) hb3) hb4⟩

theorem byte_val (n : Int) (h : (Lit.int .u8 n).wf = true) : ∃ b : UInt8, n = (b.toNat : Int) := by
  have h2 : 0 ≤ n ∧ n < 256 := by simp [Lit.wf, IntKind.min, IntKind.max, IntKind.signed, IntKind.bits] at h; omega
  refine ⟨UInt8.ofNat n.toNat, ?_⟩
  rw [UInt8.toNat_ofNat']; omega

theorem word_val (n : Int) (h : (Lit.int .u32 n).wf = true) : ∃ c : W, n = (c.toNat : Int) := by
  have h2 : 0 ≤ n ∧ n < 4294967296 := by simp [Lit.wf, IntKind.min, IntKind.max, IntKind.signed, IntKind.bits] at h; omega
  refine ⟨BitVec.ofNat 32 n.toNat, ?_⟩
  rw [BitVec.toNat_ofNat]; omega

theorem sums (s : ByteArray) (c b f t : Int) (hs : s.size ≤ maxLen) (hc : (Lit.int .u32 c).wf = true) (hb : (Lit.int .u8 b).wf = true) (hf : (Lit.int .i64 f).wf = true) (ht : (Lit.int .i64 t).wf = true) (w : World) :
    Calls Try.prog 7 #[.string s, .int .u32 c, .int .u8 b, .int .i64 f, .int .i64 t] w fun e w' => e = .returned (.bool true) ∧ Below w.heap.size w w' := by
  obtain ⟨b, rfl⟩ := byte_val b hb
  obtain ⟨c, rfl⟩ := word_val c hc
  clear hb hc hf ht
  by_cases h : 1000 < s.size
  · go_enter Try.func7, Try.ntmps7
    go_wp2_with (refine (shown_any _).mono ?_; rintro e w1 ⟨rfl, hb1⟩)
    go_ret
    exact ⟨rfl, hb1⟩
  · go_enter Try.func7, Try.ntmps7
    go_wp2_with (first
      | (go_at_call 8; refine (shown_any _).mono ?_; rintro e w1 ⟨rfl, hb1⟩)
      | (go_at_call 9; refine (Sum_any _ hs _).mono ?_; rintro e w2 ⟨rfl, hb2⟩)
      | (go_at_call 10; refine (rSum_any _ hs _).mono ?_; rintro e w' ⟨rfl, rfl⟩)
      | (go_at_call 11; refine (Step_any _ _ _).mono ?_; rintro e w3 ⟨rfl, hb3⟩)
      | (go_at_call 12; refine (rstep_any _ _ _).mono ?_; rintro e w' ⟨rfl, rfl⟩)
      | (go_at_call 13; refine (Range_any _ hs _ _ _).mono ?_; rintro e w4 ⟨rfl, hb4⟩)
      | (go_at_call 14; refine (rRange_any _ hs _ _ _).mono ?_; rintro e w' ⟨rfl, rfl⟩))
    go_ret
    exact ⟨rfl, bthen (bthen (bthen hb1 hb2) hb3) hb4⟩
end Go.Proofs.Ytdgdhogbdiofbaa.Crc
