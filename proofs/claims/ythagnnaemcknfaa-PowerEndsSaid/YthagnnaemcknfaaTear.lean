/- power.Tear: what it is; the way on which Do goes wrong. -/
import Derived.Test.YthagnnaemcknfaaInvW
namespace Go.Proofs.Ythagnnaemcknfaa
open Go.RowKit
set_option linter.unusedVariables false
set_option linter.unusedSimpArgs false

/-- bytes, of which those from i to j are torn -/
def midB (was is mask : ByteArray) (i j : Nat) : ByteArray := was.extract 0 i ++ tornB (was.extract i j) (is.extract i j) mask ++ was.extract j was.size
/-- the mask of an erase -/
def invB (mask : ByteArray) (n : Nat) : ByteArray := ⟨(invR (oddR mask n n) n).toArray⟩
def tearS (f : Fl) (o : Oq) (mask : ByteArray) : ByteArray :=
  if o.kind = 2 then midB ((doF f o).bank o.bank) (f.bank o.bank) (invB mask (f.bank o.bank).size) 0 (f.bank o.bank).size
  else midB (f.bank o.bank) ((doF f o).bank o.bank) mask o.at_.toNat (o.at_.toNat + o.data.size)
def tearF (f : Fl) (o : Oq) (mask : ByteArray) : Fl := if doE f o = 0 then (doF f o).put o.bank (tearS f o mask) else f
theorem doF_bad {f : Fl} {o : Oq} (h : doE f o ≠ 0) : doF f o = f := by
  unfold doE at h
  unfold doF
  split
  · rename_i h1; rw [if_pos h1] at h; exact pgF_bad h
  · rename_i h1
    rw [if_neg h1] at h
    split
    · rename_i h2; rw [if_pos h2] at h; exact if_neg h
    · rfl
end Go.Proofs.Ythagnnaemcknfaa
