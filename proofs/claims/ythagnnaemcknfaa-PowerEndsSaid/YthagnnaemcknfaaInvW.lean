/- power.invert: the walk. -/
import Derived.Test.YthagnnaemcknfaaInv
namespace Go.Proofs.Ythagnnaemcknfaa
open Go.RowKit
set_option linter.unusedVariables false
set_option linter.unusedSimpArgs false

theorem inv_byte : ∀ b : Fin 256, bits BinOp.xor IntKind.u8 (if IntKind.u8.signed = true then -1 else IntKind.u8.max) (b.1 : Int) = (((~~~ (UInt8.ofNat b.1)).toNat : Nat) : Int) := by decide +kernel
theorem inv_at (x : UInt8) : bits BinOp.xor IntKind.u8 (if IntKind.u8.signed = true then -1 else IntKind.u8.max) (x.toNat : Int) = ((~~~ x).toNat : Int) := by
  have := inv_byte ⟨x.toNat, UInt8.toNat_lt _⟩
  rw [UInt8.ofNat_toNat] at this
  exact this

theorem Invert_any (m : ByteArray) (hm : m.size ≤ 1000) (w : World) :
    Calls Try.prog 13 #[.string m] w fun e w' => e = .returned (.string ⟨(invR m.data.toList m.size).toArray⟩) ∧ Below w.heap.size w w' := by
  have hcv := fun w : World => run_bytes_of_string (P := Try.prog) w 9 47 5 m Try.underlying9 Try.underlying47 Try.underlying5
  go_enter Try.func13, Try.ntmps13
  go_wp2
  have hr1 := Row.ofString w m (grownCap w m.size 0 5) _ (bytesRow_size m (grownCap w m.size 0 5))
  have hbl := (Below.refl w.heap.size w).alloc (Nat.le_refl _) (.cells (bytesRow m (grownCap w m.size 0 5)) 5 ((bytesRow m (grownCap w m.size 0 5)).size, (bytesRow m (grownCap w m.size 0 5)).size + 1))
  generalize grownCap w m.size 0 5 = C at *
  generalize w.alloc (.cells (bytesRow m C) 5 ((bytesRow m C).size, (bytesRow m C).size + 1)) = W1 at *
  have hl : m.data.toList.length = m.size := by simp
  rw [← invR_zero m.data.toList] at hr1
  go_loopw [9] (fun i wr => ∃ k : Nat, k ≤ m.size ∧ i = .int .i64 k ∧ Row wr w.heap.size (invR m.data.toList k) ∧ Below w.heap.size w wr) (fun i _ => m.size - (intOf i).toNat)
  case atStart => exact ⟨0, by omega, rfl, hr1, hbl.drew⟩
  case round =>
    obtain ⟨k, hk, rfl, hR, hbr⟩ := hrel
    have hlen := invR_length m.data.toList k
    by_cases hlt : k < m.size
    · obtain ⟨x, hx⟩ : ∃ x, x = m.data.toList.getD k 0 := ⟨_, rfl⟩
      have c1 := (hR k (by omega)).1
      have c2 := (hR k (by omega)).2
      rw [invR_get _ _ (by omega), ← hx] at c1
      have hs := hR.set k (~~~ x)
      rw [show (~~~ x) = ~~~ (m.data.toList.getD k 0) by rw [hx], invR_set _ _ (by omega), ← hx] at hs
      have HS := Lib.hid hs
      have HB := Lib.hid (hbr.setCell (p := ⟨w.heap.size, k, none⟩) (Nat.le_refl _) (.int .u8 ((~~~ x).toNat : Int)))
      have HX := Lib.hid hx
      clear hs hx hR hr1 hl hlen
      have hob := Lib.hid (inv_at x)
      go_wp2
      go_roundw
      case rel => exact ⟨k + 1, by omega, by go_num, by rw [hob.out]; exact HS.out, by rw [hob.out]; exact HB.out⟩
      case measure => simp [intOf]; omega
    · have hk2 : k = m.size := by omega
      subst hk2
      have hcc := fun cap : Nat => conv_cells wr w.heap.size 0 cap (invR m.data.toList m.size) (fun j hj => by rw [Nat.zero_add]; exact (hR j hj).1)
      simp only [hlen, hl] at hcc
      have hd : decide ((m.size : Int) < (m.size : Int)) = false := by simp
      clear hr1 hl hlen hcv
      go_wp2
      go_ret
      exact ⟨rfl, hbr⟩
end Go.Proofs.Ythagnnaemcknfaa
