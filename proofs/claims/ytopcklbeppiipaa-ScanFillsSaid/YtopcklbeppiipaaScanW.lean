/- The walk of the law ScanWrites. -/
import Derived.Test.YtopcklbeppiipaaScanD
import Derived.Deep.RegionHeld3
namespace Go.Proofs.Ytopcklbeppiipaa
open Go.RowKit
set_option linter.unusedVariables false
set_option linter.unusedSimpArgs false

theorem cells_down {W W' : World} {p : Addr} {x : Value} (hb : Below W.heap.size W W') (h : W.cell? p = some x) : W'.cell? p = some x :=
  (hb.cell (p := p) (World.block_lt_of_cell? W p h)).trans h
theorem enc_state (k : Int) (n d i : Nat) (h2 : 2 ≤ k) (h3 : k ≤ 3) (hn : n < 18446744073709551616) (hd : d < 18446744073709551616) (hi : 1 ≤ i) : stateP (i : Int) (encB k n d) = 2 := by
  unfold stateP decE decK
  rw [dec_enc k n d (by omega) h3 hn hd]
  have : ¬ ((k.toNat : Int) = 1) := by omega
  have h0 : ¬ ((i : Int) = 0) := by omega
  simp [this, h0]
  omega

theorem writes_out1 (s : ByteArray) (K N D : Int) (h : 400 < s.size ∨ (s.size ≤ 400 ∧ K < 2) ∨ (s.size ≤ 400 ∧ 3 < K)) (hs : s.size ≤ maxLen) (w : World) :
    Calls Try.prog 5 #[.string s, .agg #[.int .i64 K, .int .u64 N, .int .u64 D]] w fun e w' => e = .returned (.bool true) ∧ Below w.heap.size w w' := by
  have hR := rslots_nat s
  have hN := Next_any s hs
  generalize placeN s - 1 = n at *
  generalize nextS s = Q at *
  unfold maxLen at hs
  have B0 : Below w.heap.size w (w.alloc (.cells #[.int .i64 K, .int .u64 N, .int .u64 D] 25)) := (Below.refl _ w).alloc (Nat.le_refl _) _
  have k0 := Blk.new w 25 #[.int .i64 K, .int .u64 N, .int .u64 D]
  generalize hW : w.alloc (.cells #[.int .i64 K, .int .u64 N, .int .u64 D] 25) = W0 at *
  have HB0 := Lib.hid B0
  have HK0 := Lib.hid k0
  clear B0 k0
  rcases h with h | ⟨h, hk⟩ | ⟨h, hk⟩
  · go_enter Try.func5, Try.ntmps5
    go_wp2_with fail
    clear hW
    refine (hR _).mono ?_
    rintro e w1 ⟨rfl, rfl⟩
    go_wp2_with fail
    refine (hN _).mono ?_
    rintro e w2 ⟨rfl, b2⟩
    have k2 := Blk.below HK0.out b2 HK0.out.lt
    have r0 := k2.cell 0
    simp at r0
    have B2 := Lib.hid (bthen HB0.out b2)
    clear b2 k2
    go_wp2_with fail
    refine (shown9_any _).mono ?_
    rintro e w3 ⟨rfl, b3⟩
    go_wp2
    go_ret
    exact ⟨rfl, bthen B2.out b3⟩
  · go_enter Try.func5, Try.ntmps5
    go_wp2_with fail
    clear hW
    refine (hR _).mono ?_
    rintro e w1 ⟨rfl, rfl⟩
    go_wp2_with fail
    refine (hN _).mono ?_
    rintro e w2 ⟨rfl, b2⟩
    have k2 := Blk.below HK0.out b2 HK0.out.lt
    have r0 := k2.cell 0
    simp at r0
    have B2 := Lib.hid (bthen HB0.out b2)
    clear b2 k2
    go_wp2_with fail
    refine (shown9_any _).mono ?_
    rintro e w3 ⟨rfl, b3⟩
    go_wp2
    go_ret
    exact ⟨rfl, bthen B2.out b3⟩
  · have h2 : decide (K < 2) = false := by simp; omega
    go_enter Try.func5, Try.ntmps5
    go_wp2_with fail
    clear hW
    refine (hR _).mono ?_
    rintro e w1 ⟨rfl, rfl⟩
    go_wp2_with fail
    refine (hN _).mono ?_
    rintro e w2 ⟨rfl, b2⟩
    have k2 := Blk.below HK0.out b2 HK0.out.lt
    have r0 := k2.cell 0
    simp at r0
    have B2 := Lib.hid (bthen HB0.out b2)
    clear b2 k2
    go_wp2_with fail
    refine (shown9_any _).mono ?_
    rintro e w3 ⟨rfl, b3⟩
    go_wp2
    go_ret
    exact ⟨rfl, bthen B2.out b3⟩

theorem writes_out2 (s : ByteArray) (K N D : Int) (h : s.size ≤ 400) (hk2 : 2 ≤ K) (hk3 : K ≤ 3) (hq : nextS s = 0) (w : World) :
    Calls Try.prog 5 #[.string s, .agg #[.int .i64 K, .int .u64 N, .int .u64 D]] w fun e w' => e = .returned (.bool true) ∧ Below w.heap.size w w' := by
  have hR := rslots_nat s
  have hN := Next_any s (by unfold maxLen; omega)
  rw [hq] at hN
  generalize placeN s - 1 = n at *
  have h2 : decide (K < 2) = false := by simp; omega
  have h3 : decide (3 < K) = false := by simp; omega
  have B0 : Below w.heap.size w (w.alloc (.cells #[.int .i64 K, .int .u64 N, .int .u64 D] 25)) := (Below.refl _ w).alloc (Nat.le_refl _) _
  have k0 := Blk.new w 25 #[.int .i64 K, .int .u64 N, .int .u64 D]
  generalize hW : w.alloc (.cells #[.int .i64 K, .int .u64 N, .int .u64 D] 25) = W0 at *
  have HB0 := Lib.hid B0
  have HK0 := Lib.hid k0
  clear B0 k0 hq
  go_enter Try.func5, Try.ntmps5
  go_wp2_with fail
  clear hW
  refine (hR _).mono ?_
  rintro e w1 ⟨rfl, rfl⟩
  go_wp2_with fail
  refine (hN _).mono ?_
  rintro e w2 ⟨rfl, b2⟩
  have k2 := Blk.below HK0.out b2 HK0.out.lt
  have r0 := k2.cell 0
  simp at r0
  have B2 := Lib.hid (bthen HB0.out b2)
  clear b2 k2
  go_wp2_with fail
  refine (shown9_any _).mono ?_
  rintro e w3 ⟨rfl, b3⟩
  go_wp2
  go_ret
  exact ⟨rfl, bthen B2.out b3⟩

end Go.Proofs.Ytopcklbeppiipaa
