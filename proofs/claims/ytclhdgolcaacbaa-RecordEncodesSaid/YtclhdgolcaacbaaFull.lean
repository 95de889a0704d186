/- Texts of blank bytes. -/
import Derived.Test.YtclhdgolcaacbaaBlankF
namespace Go.Proofs.Ytclhdgolcaacbaa
open Go.RowKit
set_option linter.unusedVariables false
set_option linter.unusedSimpArgs false

def fullB (n : Nat) : ByteArray := ⟨(List.replicate n (255 : UInt8)).toArray⟩
theorem fullB_size (n : Nat) : (fullB n).size = n := by show (List.replicate n (255 : UInt8)).toArray.size = n; simp
theorem fullB_succ (k : Nat) : fullB k ++ ⟨#[255]⟩ = fullB (k + 1) := by
  unfold fullB
  apply ByteArray.ext
  rw [ByteArray.data_append]
  apply Array.ext'
  simp [List.replicate_succ']

end Go.Proofs.Ytclhdgolcaacbaa
