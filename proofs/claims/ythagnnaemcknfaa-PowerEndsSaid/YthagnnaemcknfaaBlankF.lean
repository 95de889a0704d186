/- flash.Blank (over strings.Count at one byte): what it answers. -/
import Derived.Test.YthagnnaemcknfaaBytes
import Derived.Lib.Strings
import Derived.Lib.Slices
import Derived.Lib.Walk
import Derived.Lib.Bytealg
namespace Go.Proofs.Ythagnnaemcknfaa
open Go.RowKit
set_option linter.unusedVariables false
set_option linter.unusedSimpArgs false

theorem toList_loop (s : ByteArray) : ∀ (n i : Nat) (r : List UInt8), s.size - i = n → ByteArray.toList.loop s i r = r.reverse ++ s.data.toList.drop i := by
  intro n
  induction n with
  | zero =>
    intro i r h
    rw [ByteArray.toList.loop, if_neg (by omega), List.drop_eq_nil_of_le (by simp; have : s.size = s.data.size := rfl; omega), List.append_nil]
  | succ n ih =>
    intro i r h
    have hi : i < s.size := by omega
    rw [ByteArray.toList.loop, if_pos hi, ih (i + 1) _ (by omega)]
    have hi2 : i < s.data.toList.length := by simp; exact hi
    rw [List.drop_eq_getElem_cons hi2, List.reverse_cons, List.append_assoc]
    congr 1
    have e : s.get! i = s.data.toList[i] := by
      show s.data[i]! = _
      rw [getElem!_pos s.data i hi]; simp
    rw [e]; rfl
theorem toList_data (s : ByteArray) : s.toList = s.data.toList := by
  rw [ByteArray.toList, toList_loop s _ 0 [] rfl]; simp

/-- whether all bytes are 255 -/
def blankS (s : ByteArray) : Bool := s.data.toList.all (· == 255)
theorem blank_count (s : ByteArray) : (((Lib.countByte s.data.toList 255 : Nat) : Int) == (s.size : Int)) = blankS s := by
  unfold blankS Lib.countByte
  have hl : s.data.toList.length = s.size := by simp
  rw [Bool.eq_iff_iff, beq_iff_eq, List.all_eq_true, ← hl]
  rw [show ((List.count 255 s.data.toList : Nat) : Int) = ((s.data.toList.length : Nat) : Int) ↔ List.count 255 s.data.toList = s.data.toList.length by omega, List.count_eq_length]
  constructor
  · intro h x hx; exact beq_iff_eq.2 (h x hx).symm
  · intro h x hx; exact (beq_iff_eq.1 (h x hx)).symm

end Go.Proofs.Ythagnnaemcknfaa
