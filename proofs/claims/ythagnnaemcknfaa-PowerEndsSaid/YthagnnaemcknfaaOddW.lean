/- power.odd: the walk. -/
import Derived.Test.YthagnnaemcknfaaOdd
namespace Go.Proofs.Ythagnnaemcknfaa
open Go.RowKit
set_option linter.unusedVariables false
set_option linter.unusedSimpArgs false

theorem odd_byte : ∀ b : Fin 256, -bits BinOp.and IntKind.u8 (b.1 : Int) 1 % 256 = (((if b.1 % 2 = 1 then 255 else 0 : UInt8).toNat : Nat) : Int) := by decide +kernel
theorem odd_at (m : ByteArray) (k : Nat) (h : k < m.size) : -bits BinOp.and IntKind.u8 ((m[k]'h).toNat : Int) 1 % 256 = ((oddAt m k).toNat : Int) := by
  have h1 := odd_byte ⟨(m[k]'h).toNat, UInt8.toNat_lt _⟩
  have h2 : byteOr m 0 k = m[k]'h := by unfold byteOr; rw [List.getD_eq_getElem?_getD, List.getElem?_eq_getElem (by simpa using h)]; rfl
  unfold oddAt
  rw [h2]
  exact h1

theorem Odd_any (m : ByteArray) (hm : m.size ≤ 1000) (n : Nat) (hn : n ≤ 1000) (w : World) :
    Calls Try.prog 14 #[.string m, .int .i64 (n : Int)] w fun e w' => e = .returned (.string ⟨(oddR m n n).toArray⟩) ∧ Below w.heap.size w w' := by
  have hmk := mk_bytes n (by omega)
  obtain ⟨q, hq⟩ : ∃ q : Nat, min (n : Int) (m.size : Int) = (q : Int) := ⟨min n m.size, by omega⟩
  have hqn : q ≤ n := by omega
  have hqm : q ≤ m.size := by omega
  have hfull := Lib.hid (oddR_full m n q (by omega) (fun j hj => by unfold oddAt byteOr; rw [List.getD_eq_getElem?_getD, List.getElem?_eq_none (by simpa using hj)]; rfl))
  go_enter Try.func14, Try.ntmps14
  go_wp2
  have b0 := Blk.new w 5 (bcells (List.replicate n 0)).toArray
  have hB0 : Below w.heap.size w (w.alloc (.cells (bcells (List.replicate n 0)).toArray 5)) := (Below.refl _ w).alloc (Nat.le_refl _) _
  rw [← oddR_zero m n] at b0 hB0
  simp only [← oddR_zero m n]
  generalize (w.alloc (.cells (bcells (oddR m n 0)).toArray 5)) = W1 at *
  go_loopw [13] (fun i wr => ∃ k : Nat, k ≤ q ∧ i = .int .i64 k ∧ Blk wr w.heap.size 5 (bcells (oddR m n k)).toArray ∧ Below w.heap.size w wr) (fun i _ => q - (intOf i).toNat)
  case atStart => exact ⟨0, by omega, rfl, b0, hB0⟩
  case round =>
    obtain ⟨k, hk, rfl, bR, hbr⟩ := hrel
    by_cases hlt : k < q
    · have hol := oddR_length m n k
      have cS : wr.cell? ⟨w.heap.size, k, none⟩ = some (.int .u8 (((oddR m n k)[k]'(by omega)).toNat : Int)) := by rw [bR.cell]; simp [bcells, hol, show k < n by omega]
      have fS := bR.frozen k
      have hset := bcells_set (oddR m n k) k (oddAt m k)
      have bR2 := bR.set k (.int .u8 ((oddAt m k).toNat : Int))
      rw [hset, oddR_set m n k (by omega)] at bR2
      have hkm : k < m.size := by omega
      have hkn : k < n := by omega
      have HB := Lib.hid bR2
      have HL := Lib.hid (hbr.setCell (p := ⟨w.heap.size, k, none⟩) (Nat.le_refl _) (.int .u8 ((oddAt m k).toNat : Int)))
      clear bR2 hset bR
      have hob := Lib.hid (odd_at m k hkm)
      go_wp2
      go_roundw
      case rel => exact ⟨k + 1, by omega, by go_num, by rw [hob.out]; exact HB.out, by rw [hob.out]; exact HL.out⟩
      case measure => simp [intOf]; omega
    · have hk2 : k = q := by omega
      subst hk2
      have hcv := conv_cells wr w.heap.size 0 n (oddR m n k) (fun j hj => by rw [Nat.zero_add, bR.cell]; simp [bcells, hj])
      rw [oddR_length m n k, hfull.out] at hcv
      go_wp2
      go_ret
      exact ⟨rfl, hbr⟩
end Go.Proofs.Ythagnnaemcknfaa
