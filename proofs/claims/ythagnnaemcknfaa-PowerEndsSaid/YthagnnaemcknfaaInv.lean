/- power.invert. -/
import Derived.Test.YthagnnaemcknfaaOddW
namespace Go.Proofs.Ythagnnaemcknfaa
open Go.RowKit
set_option linter.unusedVariables false
set_option linter.unusedSimpArgs false

def invR (l : List UInt8) (k : Nat) : List UInt8 := (List.range l.length).map fun j => if j < k then ~~~ (l.getD j 0) else l.getD j 0
theorem invR_length (l : List UInt8) (k : Nat) : (invR l k).length = l.length := by simp [invR]
theorem invR_zero (l : List UInt8) : invR l 0 = l := by
  apply List.ext_getElem (by simp [invR])
  intro j h1 h2
  simp [invR, List.getD_eq_getElem?_getD, List.getElem?_eq_getElem h2]
theorem invR_get (l : List UInt8) (k : Nat) (h : k < l.length) : (invR l k)[k]'(by rw [invR_length]; exact h) = l.getD k 0 := by simp [invR]
theorem invR_set (l : List UInt8) (k : Nat) (h : k < l.length) : (invR l k).set k (~~~ (l.getD k 0)) = invR l (k + 1) := by
  apply List.ext_getElem (by simp [invR])
  intro j h1 h2
  rw [List.getElem_set]
  by_cases hj : k = j
  · subst hj; simp [invR]
  · rw [if_neg hj]
    simp only [invR, List.getElem_map, List.getElem_range]
    by_cases h3 : j < k
    · rw [if_pos h3, if_pos (by omega)]
    · rw [if_neg h3, if_neg (by omega)]
end Go.Proofs.Ythagnnaemcknfaa
