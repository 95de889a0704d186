/- power.odd (under way). -/
import Derived.Test.YthagnnaemcknfaaPower
namespace Go.Proofs.Ythagnnaemcknfaa
open Go.RowKit
set_option linter.unusedVariables false
set_option linter.unusedSimpArgs false

/-- the byte of the odd mask at a place -/
def oddAt (m : ByteArray) (j : Nat) : UInt8 := if (byteOr m 0 j).toNat % 2 = 1 then 255 else 0
def oddR (m : ByteArray) (n k : Nat) : List UInt8 := (List.range n).map fun j => if j < k then oddAt m j else 0
theorem oddR_length (m : ByteArray) (n k : Nat) : (oddR m n k).length = n := by simp [oddR]
theorem oddR_zero (m : ByteArray) (n : Nat) : oddR m n 0 = List.replicate n 0 := by
  apply List.ext_getElem?
  intro j
  unfold oddR
  rw [List.getElem?_map, List.getElem?_replicate]
  by_cases h : j < n
  · simp [List.getElem?_range h, h]
  · simp [h]
theorem oddR_set (m : ByteArray) (n k : Nat) (h : k < n) : (oddR m n k).set k (oddAt m k) = oddR m n (k + 1) := by
  apply List.ext_getElem?
  intro j
  rw [List.getElem?_set]
  unfold oddR
  by_cases hj : k = j
  · subst hj
    simp [h]
  · rw [if_neg hj, List.getElem?_map, List.getElem?_map]
    by_cases hn : j < n
    · rw [List.getElem?_range hn]
      simp only [Option.map_some]
      by_cases h1 : j < k
      · rw [if_pos h1, if_pos (by omega)]
      · rw [if_neg h1, if_neg (by omega)]
    · rw [List.getElem?_eq_none (by simp; omega)]; rfl
theorem oddR_full (m : ByteArray) (n k : Nat) (h : k = min n m.size) (hz : ∀ j, m.size ≤ j → oddAt m j = 0) : oddR m n k = oddR m n n := by
  apply List.ext_getElem?
  intro j
  unfold oddR
  rw [List.getElem?_map, List.getElem?_map]
  by_cases hn : j < n
  · rw [List.getElem?_range hn]
    simp only [Option.map_some]
    rw [if_pos hn]
    by_cases h1 : j < k
    · rw [if_pos h1]
    · rw [if_neg h1, hz j (by omega)]
  · rw [List.getElem?_eq_none (by simp; omega)]; rfl
end Go.Proofs.Ythagnnaemcknfaa
