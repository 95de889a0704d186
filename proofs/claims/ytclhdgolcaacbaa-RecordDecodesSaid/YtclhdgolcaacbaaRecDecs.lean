/- The walk of the law RecordDecodes. -/
import Derived.Test.YtclhdgolcaacbaaRefDec
import Derived.Test.YtclhdgolcaacbaaRecShown
namespace Go.Proofs.Ytclhdgolcaacbaa
open Go.RowKit
set_option linter.unusedVariables false
set_option linter.unusedSimpArgs false

theorem decs_walk (s : ByteArray) (hs : s.size ≤ maxLen) (w : World) :
    Calls Try.prog 4 #[.string s] w fun e w' => e = .returned (.bool true) ∧ Below w.heap.size w w' := by
  by_cases h : 100 < s.size
  · have hs' := hs
    unfold maxLen at hs'
    go_enter Try.func4, Try.ntmps4
    go_wp2_with (with_reducible refine (shown_any _).mono ?_; rintro e w1 ⟨rfl, b1⟩)
    go_ret
    exact ⟨rfl, b1⟩
  · have h1 := Decode_any s hs
    have h2 := rDecode_any s (by omega)
    have h3 := Good_any s hs
    have h4 := rGood_any s (by omega)
    unfold decV at h1 h2
    generalize decE s = E at *
    generalize decK s = K at *
    generalize decN s = N at *
    generalize decD s = D at *
    generalize goodB s = G at *
    have hs2 : s.size ≤ 100 := by omega
    clear hs h
    go_enter Try.func4, Try.ntmps4
    go_wp2_with (with_reducible refine (shown_any _).mono ?_)
    rintro e w1 ⟨rfl, b1⟩
    go_wp2_with (with_reducible refine (h1 _).mono ?_)
    rintro e w2 ⟨rfl, b2⟩
    have B2 := bthen b1 b2
    go_wp2_with (with_reducible refine (h2 _).mono ?_)
    rintro e w3 ⟨rfl, b3⟩
    have k2 := ((Blk.new w2 24 #[.int .i64 (K : Int), .int .u64 (N : Int), .int .u64 (D : Int)]).below b3 (by simp)).alloc (.cells #[.int .i64 (K : Int), .int .u64 (N : Int), .int .u64 (D : Int)] 25)
    have k3 := Blk.new w3 25 #[.int .i64 (K : Int), .int .u64 (N : Int), .int .u64 (D : Int)]
    have B3 := ((B2.alloc B2.size (.cells #[.int .i64 (K : Int), .int .u64 (N : Int), .int .u64 (D : Int)] 24)))
    have B4 := (bthen B3 b3).alloc (bthen B3 b3).size (.cells #[.int .i64 (K : Int), .int .u64 (N : Int), .int .u64 (D : Int)] 25)
    have r0 := k2.cell 0
    have r1 := k2.cell 1
    have r2 := k2.cell 2
    have s0 := k3.cell 0
    have s1 := k3.cell 1
    have s2 := k3.cell 2
    simp at r0 r1 r2 s0 s1 s2
    go_wp2_with (with_reducible refine (h3 _).mono ?_)
    rintro e w4 ⟨rfl, b4⟩
    go_wp2_with (with_reducible refine (h4 _).mono ?_)
    rintro e w5 ⟨rfl, b5⟩
    go_wp2
    go_ret
    exact ⟨ret_bool (by simp), bthen (bthen B4 b4) b5⟩
end Go.Proofs.Ytclhdgolcaacbaa
