/- The law ScanWrites, for every input. -/
import Derived.Test.YtopcklbeppiipaaScanX
namespace Go.Proofs.Ytopcklbeppiipaa
open Go.RowKit
set_option linter.unusedVariables false

theorem ScanWrites_walk (s : ByteArray) (k n d : Int) (hs : s.size ≤ maxLen) (hk : (Lit.int .i64 k).wf = true) (hn : (Lit.int .u64 n).wf = true) (hd : (Lit.int .u64 d).wf = true) (w : World) :
    Calls Try.prog 5 #[.string s, .agg #[.int .i64 k, .int .u64 n, .int .u64 d]] w fun e w' => e = .returned (.bool true) ∧ Below w.heap.size w w' := by
  have hn' : 0 ≤ n ∧ n < 18446744073709551616 := by simp [Lit.wf, IntKind.min, IntKind.max, IntKind.signed, IntKind.bits] at hn; omega
  have hd' : 0 ≤ d ∧ d < 18446744073709551616 := by simp [Lit.wf, IntKind.min, IntKind.max, IntKind.signed, IntKind.bits] at hd; omega
  by_cases h : 400 < s.size ∨ (s.size ≤ 400 ∧ k < 2) ∨ (s.size ≤ 400 ∧ 3 < k)
  · exact writes_out1 s k n d h hs w
  · have h4 : s.size ≤ 400 := by omega
    have h2 : 2 ≤ k := by omega
    have h3 : k ≤ 3 := by omega
    rcases nextS_le s with hq | ⟨q, m, hq, hq1, hqm, hN, hm12⟩
    · exact writes_out2 s k n d h4 h2 h3 hq w
    · obtain ⟨n, rfl⟩ : ∃ x : Nat, n = (x : Int) := ⟨n.toNat, by omega⟩
      obtain ⟨d, rfl⟩ : ∃ x : Nat, d = (x : Int) := ⟨d.toNat, by omega⟩
      exact writes_law s k n d q m h4 h2 h3 (by omega) (by omega) hN hq hq1 hqm hm12 w
end Go.Proofs.Ytopcklbeppiipaa
