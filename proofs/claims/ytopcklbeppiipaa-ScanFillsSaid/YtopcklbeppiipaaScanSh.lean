/- The scan laws' blank, shown. -/
import Derived.Test.YtopcklbeppiipaaScanM
import Derived.Test.YtopcklbeppiipaaRef8
namespace Go.Proofs.Ytopcklbeppiipaa
open Go.RowKit
set_option linter.unusedVariables false
set_option linter.unusedSimpArgs false

theorem sblank_any (n : Nat) (hn : n ≤ 1000) (w : World) :
    Calls Try.prog 17 #[.int .i64 (n : Int)] w fun e w' => e = .returned (.string (fullB n)) ∧ w = w' := by
  go_enter Try.func17, Try.ntmps17
  go_wp2
  go_loopw [3, 4] (fun v i wr => ∃ j : Nat, j ≤ n ∧ i = .int .i64 j ∧ v = .string (fullB j) ∧ wr = w) (fun _ i _ => n - (intOf i).toNat)
  case atStart => exact ⟨0, by omega, rfl, rfl, rfl⟩
  case round =>
    obtain ⟨j, hj, rfl, rfl, rfl⟩ := hrel
    by_cases hlt : j < n
    · have hcat := Lib.hid (fullB_succ j)
      have hfs := fullB_size j
      go_wp2
      go_roundw
      case rel => exact ⟨j + 1, by omega, by go_num, by rw [← hcat.out], by trivial⟩
      case measure => simp [intOf]; omega
    · have hj2 : j = n := by omega
      subst hj2
      go_wp2
      go_ret
      exact ⟨rfl, rfl⟩

def sh9 : ByteArray := encB 1 4 0 ++ encB 3 9 1 ++ ⟨#[0]⟩ ++ fullB 23
theorem sh9_facts : lastS (sh9 ++ fullB 24) = some 1 ∧ decK (slotS (sh9 ++ fullB 24) 1) = 3 ∧ decN (slotS (sh9 ++ fullB 24) 1) = 9 ∧ decD (slotS (sh9 ++ fullB 24) 1) = 1 ∧ lastS (fullB 72) = none ∧
    nextS (sh9 ++ fullB 24) = 3 ∧ nextS sh9 = 0 ∧ nextS (fullB 72) = 1 ∧ goodS sh9 = 1 ∧ soundS sh9 = true ∧ soundS (fullB 72) = false := by decide +kernel

set_option maxRecDepth 100000 in
set_option maxHeartbeats 4000000 in
theorem shown9_any (w : World) : Calls Try.prog 8 #[] w fun e w' => e = .returned (.bool true) ∧ Below w.heap.size w w' := by
  obtain ⟨f1, f2, f3, f4, f5, f6, f7, f8, f9, f10, f11⟩ := sh9_facts
  have hsz : sh9.size = 72 := by decide +kernel
  have hm : sh9.size ≤ maxLen := by rw [hsz]; decide
  have hm1 : (sh9 ++ fullB 24).size ≤ maxLen := by rw [ByteArray.size_append, hsz, fullB_size]; decide
  have hm2 : (fullB 72).size ≤ maxLen := by rw [fullB_size]; decide
  have h1 := Encode_any 1 4 0 (by decide) (by decide) (by decide)
  have h2 := Encode_any 3 9 1 (by decide) (by decide) (by decide)
  have h3 := sblank_any 23 (by decide)
  have h4 := sblank_any 24 (by decide)
  have h5 := sblank_any 72 (by decide)
  have h6 := Last_any (sh9 ++ fullB 24) hm1
  have h7 := Last_any (fullB 72) hm2
  have h8 := Next_any (sh9 ++ fullB 24) hm1
  have h9 := Next_any sh9 hm
  have h10 := Next_any (fullB 72) hm2
  have h11 := Good_any sh9 hm
  have h12 := Sound_any sh9 hm
  have h13 := Sound_any (fullB 72) hm2
  unfold lastV at h6 h7
  rw [f1] at h6
  rw [f5] at h7
  rw [f6] at h8
  rw [f7] at h9
  rw [f8] at h10
  rw [f9] at h11
  rw [f10] at h12
  rw [f11] at h13
  rw [show oK (sh9 ++ fullB 24) (some 1) = 3 from f2, show oN (sh9 ++ fullB 24) (some 1) = 9 from f3, show oD (sh9 ++ fullB 24) (some 1) = 1 from f4] at h6
  have HE := Lib.hid (show encB 1 4 0 ++ encB 3 9 1 ++ ⟨#[0]⟩ ++ fullB 23 = sh9 from rfl)
  have z1 := encB_size 1 4 0
  have z2 := encB_size 3 9 1
  have z3 := fullB_size 23
  have z4 := fullB_size 24
  clear f1 f2 f3 f4 f5 f6 f7 f8 f9 f10 f11 hm hm1 hm2
  generalize sh9 = S at *
  generalize encB 1 4 0 = X1 at *
  generalize encB 3 9 1 = X2 at *
  generalize fullB 23 = X3 at *
  generalize fullB 24 = X4 at *
  generalize fullB 72 = X5 at *
  replace h1 : ∀ W, Calls Try.prog 15 #[.agg #[.int .i64 1, .int .u64 4, .int .u64 0]] W fun e w' => e = .returned (.string X1) ∧ Below W.heap.size W w' := h1
  replace h2 : ∀ W, Calls Try.prog 15 #[.agg #[.int .i64 3, .int .u64 9, .int .u64 1]] W fun e w' => e = .returned (.string X2) ∧ Below W.heap.size W w' := h2
  replace h3 : ∀ W, Calls Try.prog 17 #[.int .i64 23] W fun e w' => e = .returned (.string X3) ∧ W = w' := h3
  replace h4 : ∀ W, Calls Try.prog 17 #[.int .i64 24] W fun e w' => e = .returned (.string X4) ∧ W = w' := h4
  replace h5 : ∀ W, Calls Try.prog 17 #[.int .i64 72] W fun e w' => e = .returned (.string X5) ∧ W = w' := h5
  replace h6 : ∀ W, Calls Try.prog 9 #[.string (S ++ X4)] W fun e w' => e = .returned (.tuple #[.agg #[.int .i64 3, .int .u64 9, .int .u64 1], .int .i64 0]) ∧ Below W.heap.size W w' := h6
  replace h7 : ∀ W, Calls Try.prog 9 #[.string X5] W fun e w' => e = .returned (.tuple #[.agg #[.int .i64 0, .int .u64 0, .int .u64 0], .int .i64 10]) ∧ Below W.heap.size W w' := h7
  replace h11 : ∀ W, Calls Try.prog 13 #[.string S] W fun e w' => e = .returned (.int .i64 1) ∧ Below W.heap.size W w' := h11
  go_enter Try.func8, Try.ntmps8
  go_wp2_with (with_reducible refine (h1 _).mono ?_)
  rintro e w1 ⟨rfl, b1⟩
  go_wp2_with (with_reducible refine (h2 _).mono ?_)
  rintro e w2 ⟨rfl, b2⟩
  go_wp2_with (with_reducible refine (h3 _).mono ?_)
  rintro e w3 ⟨rfl, rfl⟩
  have B2 := Lib.hid (bthen b1 b2)
  clear b1 b2
  go_wp2_with fail
  rw [HE.out]
  refine (h4 _).mono ?_
  rintro e w3 ⟨rfl, rfl⟩
  go_wp2_with fail
  refine (h6 _).mono ?_
  rintro e w4 ⟨rfl, b4⟩
  have B4 := bthen B2.out b4
  have b5 : Below w4.heap.size w4 (w4.alloc (.cells #[.int .i64 3, .int .u64 9, .int .u64 1] 25)) := (Below.refl _ w4).alloc (Nat.le_refl _) _
  have q5 := Blk.new w4 25 #[.int .i64 3, .int .u64 9, .int .u64 1]
  generalize hW5 : w4.alloc (.cells #[.int .i64 3, .int .u64 9, .int .u64 1] 25) = W5 at *
  have B5 := Lib.hid (bthen B4 b5)
  have Q5 := Lib.hid q5
  clear B4 b4 b5 q5 B2
  go_wp2_with fail
  refine (h5 _).mono ?_
  rintro e w3 ⟨rfl, rfl⟩
  clear hW5
  go_wp2_with fail
  refine (h7 _).mono ?_
  rintro e w6 ⟨rfl, b6⟩
  have b7 : Below w6.heap.size w6 (w6.alloc (.cells #[.int .i64 0, .int .u64 0, .int .u64 0] 25)) := (Below.refl _ w6).alloc (Nat.le_refl _) _
  have q7 := (Q5.out.below b6 Q5.out.lt)
  have q8 := q7.below b7 q7.lt
  have r1 := q8.cell 1
  have r1' := q7.cell 1
  simp only [List.getElem?_toArray, List.getElem?_cons_succ, List.getElem?_cons_zero] at r1 r1'
  have B7 := Lib.hid (bthen (bthen B5.out b6) b7)
  clear b6 b7 q7 q8 Q5 B5
  go_wp2_with fail
  refine (h4 _).mono ?_
  rintro e w3 ⟨rfl, rfl⟩
  clear r1 r1'
  generalize w6.alloc _ = W7 at *
  go_wp2_with fail
  refine (h8 _).mono ?_
  rintro e w8 ⟨rfl, b8⟩
  go_wp2_with fail
  refine (h9 _).mono ?_
  rintro e w9 ⟨rfl, b9⟩
  go_wp2_with fail
  refine (h5 _).mono ?_
  rintro e w3 ⟨rfl, rfl⟩
  go_wp2_with fail
  refine (h10 _).mono ?_
  rintro e w10 ⟨rfl, b10⟩
  go_wp2_with fail
  refine (h11 _).mono ?_
  rintro e w11 ⟨rfl, b11⟩
  go_wp2_with fail
  refine (h12 _).mono ?_
  rintro e w12 ⟨rfl, b12⟩
  go_wp2_with fail
  refine (h5 _).mono ?_
  rintro e w3 ⟨rfl, rfl⟩
  go_wp2_with fail
  refine (h13 _).mono ?_
  rintro e w13 ⟨rfl, b13⟩
  go_wp2
  go_ret
  exact ⟨rfl, bthen (bthen (bthen (bthen (bthen (bthen B7.out b8) b9) b10) b11) b12) b13⟩
end Go.Proofs.Ytopcklbeppiipaa
