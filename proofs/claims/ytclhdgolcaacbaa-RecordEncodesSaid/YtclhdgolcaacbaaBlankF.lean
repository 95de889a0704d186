/- flash.Blank (over strings.Count at one byte): what it answers. -/
import Derived.Test.YtclhdgolcaacbaaBytes
import Derived.Lib.Strings
import Derived.Lib.Slices
import Derived.Lib.Walk
import Derived.Lib.Bytealg
namespace Go.Proofs.Ytclhdgolcaacbaa
open Go.RowKit
set_option linter.unusedVariables false
set_option linter.unusedSimpArgs false

theorem toList_loop (s : ByteArray) : ∀ (n i : Nat) (r : List UInt8), s.size - i = n → ByteArray.toList.loop s i r = r.reverse ++ s.data.toList.drop i := by
  intro n
  induction n with
  | zero =>
    intro i r h
    rw [ByteArray.toList.loop, if_neg (by omega), List.drop_eq_nil_of_le (by simp; have : s.size = s.data.size := rfl; omega), List.append_nil]
  | succ n ih =>
    intro i r h
    have hi : i < s.size := by omega
    rw [ByteArray.toList.loop, if_pos hi, ih (i + 1) _ (by omega)]
    have hi2 : i < s.data.toList.length := by simp; exact hi
    rw [List.drop_eq_getElem_cons hi2, List.reverse_cons, List.append_assoc]
    congr 1
    have e : s.get! i = s.data.toList[i] := by
      show s.data[i]! = _
      rw [getElem!_pos s.data i hi]; simp
    rw [e]; rfl
theorem toList_data (s : ByteArray) : s.toList = s.data.toList := by
  rw [ByteArray.toList, toList_loop s _ 0 [] rfl]; simp

set_option maxHeartbeats 1000000 in
set_option maxRecDepth 100000 in
theorem count_any (s : ByteArray) (c : UInt8) (w : World) :
    Calls Try.prog 38 #[.string s, .string ⟨#[c]⟩] w fun e w' => e = .returned (.int .i64 (Lib.countByte s.data.toList c)) ∧ w = w' := by
  go_enter Try.func38, Try.ntmps38
  go_wp2
  rw [run_callFunc_extern Try.func42 (by kernel_rfl) (by kernel_rfl) (by kernel_rfl) (e := Extern.BytealgCount.count) (by kernel_rfl), Lib.run_countString]
  simp only [Result.andThen]
  rw [Oper.upon_value]
  go_wp2
  go_ret
  exact ⟨rfl, rfl⟩

/-- whether all bytes are 255 -/
def blankS (s : ByteArray) : Bool := s.data.toList.all (· == 255)
theorem blank_count (s : ByteArray) : (((Lib.countByte s.data.toList 255 : Nat) : Int) == (s.size : Int)) = blankS s := by
  unfold blankS Lib.countByte
  have hl : s.data.toList.length = s.size := by simp
  rw [Bool.eq_iff_iff, beq_iff_eq, List.all_eq_true, ← hl]
  rw [show ((List.count 255 s.data.toList : Nat) : Int) = ((s.data.toList.length : Nat) : Int) ↔ List.count 255 s.data.toList = s.data.toList.length by omega, List.count_eq_length]
  constructor
  · intro h x hx; exact beq_iff_eq.2 (h x hx).symm
  · intro h x hx; exact (beq_iff_eq.1 (h x hx)).symm

theorem Blank_any (s : ByteArray) (w : World) :
    Calls Try.prog 28 #[.string s] w fun e w' => e = .returned (.bool (blankS s)) ∧ w = w' := by
  have hc := blank_count s
  go_enter Try.func28, Try.ntmps28
  go_wp2_with (refine (count_any _ _ _).mono ?_; rintro e w' ⟨rfl, rfl⟩)
  go_ret
  exact ⟨rfl, rfl⟩

end Go.Proofs.Ytclhdgolcaacbaa
