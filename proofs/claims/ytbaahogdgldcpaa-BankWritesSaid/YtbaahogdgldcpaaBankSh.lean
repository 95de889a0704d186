/- The bank laws' blank, shown. -/
import Derived.Test.YtbaahogdgldcpaaBankP
namespace Go.Proofs.Ytbaahogdgldcpaa
open Go.RowKit
set_option linter.unusedVariables false
set_option linter.unusedSimpArgs false

theorem lblank_any (n : Nat) (hn : n ≤ 1000) (w : World) :
    Calls Try.prog 8 #[.int .i64 (n : Int)] w fun e w' => e = .returned (.string (fullB n)) ∧ w = w' := by
  go_enter Try.func8, Try.ntmps8
  go_wp2
  go_loopw [3, 4] (fun v i wr => ∃ j : Nat, j ≤ n ∧ i = .int .i64 j ∧ v = .string (fullB j) ∧ wr = w) (fun _ i _ => n - (intOf i).toNat)
  case atStart => exact ⟨0, by omega, rfl, rfl, rfl⟩
  case round =>
    obtain ⟨j, hj, rfl, rfl, rfl⟩ := hrel
    by_cases hlt : j < n
    · have hcat := Lib.hid (fullB_succ j)
      have hfs := fullB_size j
      go_wp2
      go_roundw
      case rel => exact ⟨j + 1, by omega, by go_num, by rw [← hcat.out], by trivial⟩
      case measure => simp [intOf]; omega
    · have hj2 : j = n := by omega
      subst hj2
      go_wp2
      go_ret
      exact ⟨rfl, rfl⟩

def shS : ByteArray := encB 1 4 0 ++ encB 2 9 1 ++ fullB 24
theorem sh_facts : genN shS = 4 ∧ genE shS = 0 ∧ statesL shS = [2, 0] ∧ dec (slotS shS 1) = (2, 9, 1, 0) ∧ slotS shS 3 = ⟨#[]⟩ ∧ stateS shS 0 = 2 := by decide +kernel
theorem sh_blank : genN (fullB 72) = 0 ∧ genE (fullB 72) = 10 := by decide +kernel

set_option maxRecDepth 100000 in
set_option maxHeartbeats 2000000 in
theorem shown_any (w : World) : Calls Try.prog 7 #[] w fun e w' => e = .returned (.bool true) ∧ Below w.heap.size w w' := by
  have h1 := Encode_any 1 4 0 (by decide) (by decide) (by decide)
  have h2 := Encode_any 2 9 1 (by decide) (by decide) (by decide)
  have h3 := lblank_any 24 (by decide)
  have h4 := lblank_any 72 (by decide)
  obtain ⟨f1, f2, f3, f4, f5, f6⟩ := sh_facts
  have hsz : shS.size = 72 := by decide +kernel
  have hm : shS.size ≤ maxLen := by rw [hsz]; decide
  have h5 := Generation_any shS hm
  have h6 := States_any shS hm
  have h7 := Generation_any (fullB 72) (by decide)
  have h8 := Record_any shS 1 hm
  have h9 := Slot_any shS 3 hm
  have h10 := State_any shS 0 hm
  rw [f1, f2] at h5
  rw [sh_blank.1, sh_blank.2] at h7
  unfold decV decK decN decD decE at h8
  rw [f4] at h8
  rw [f5] at h9
  rw [f6] at h10
  have HE := Lib.hid (show encB 1 4 0 ++ encB 2 9 1 ++ fullB 24 = shS from rfl)
  have z1 := encB_size 1 4 0
  have z2 := encB_size 2 9 1
  have z3 := fullB_size 24
  have HF3 := Lib.hid f3
  clear f1 f2 f3 f4 f5 f6 hsz hm
  generalize shS = S at *
  generalize encB 1 4 0 = X1 at *
  generalize encB 2 9 1 = X2 at *
  generalize fullB 24 = X3 at *
  generalize fullB 72 = X4 at *
  replace h1 : ∀ W, Calls Try.prog 15 #[.agg #[.int .i64 1, .int .u64 4, .int .u64 0]] W fun e w' => e = .returned (.string X1) ∧ Below W.heap.size W w' := h1
  replace h2 : ∀ W, Calls Try.prog 15 #[.agg #[.int .i64 2, .int .u64 9, .int .u64 1]] W fun e w' => e = .returned (.string X2) ∧ Below W.heap.size W w' := h2
  replace h3 : ∀ W, Calls Try.prog 8 #[.int .i64 24] W fun e w' => e = .returned (.string X3) ∧ W = w' := h3
  replace h4 : ∀ W, Calls Try.prog 8 #[.int .i64 72] W fun e w' => e = .returned (.string X4) ∧ W = w' := h4
  replace h5 : ∀ W, Calls Try.prog 11 #[.string S] W fun e w' => e = .returned (.tuple #[.int .u64 4, .int .i64 0]) ∧ Below W.heap.size W w' := h5
  replace h7 : ∀ W, Calls Try.prog 11 #[.string X4] W fun e w' => e = .returned (.tuple #[.int .u64 0, .int .i64 10]) ∧ Below W.heap.size W w' := h7
  replace h8 : ∀ W, Calls Try.prog 17 #[.string S, .int .i64 1] W fun e w' => e = .returned (.tuple #[.agg #[.int .i64 2, .int .u64 9, .int .u64 1], .int .i64 0]) ∧ Below W.heap.size W w' := h8
  go_enter Try.func7, Try.ntmps7
  go_wp2_with (with_reducible refine (h1 _).mono ?_)
  rintro e w1 ⟨rfl, b1⟩
  go_wp2_with (with_reducible refine (h2 _).mono ?_)
  rintro e w2 ⟨rfl, b2⟩
  go_wp2_with (with_reducible refine (h3 _).mono ?_)
  rintro e w3 ⟨rfl, rfl⟩
  have B2 := bthen b1 b2
  go_wp2_with fail
  rw [HE.out]
  refine (h5 _).mono ?_
  rintro e w4 ⟨rfl, b4⟩
  have B4 := bthen B2 b4
  go_wp2_with (with_reducible refine (h6 _).mono ?_)
  rintro e w5 ⟨v, rfl, own5, b5⟩
  rw [HF3.out] at own5
  obtain ⟨g, cap, rfl, hg, hgl, hcells⟩ := own5.form (by decide)
  have c0 := hcells 0 2 rfl
  have c1 := hcells 1 0 rfl
  have B5 := bthen B4 b5
  clear own5 hcells b5 B4
  go_wp2_with (with_reducible refine (h4 _).mono ?_; rintro e w6 ⟨rfl, rfl⟩)
  refine (h7 _).mono ?_
  rintro e w7 ⟨rfl, b7⟩
  replace c0 := (b7.cell (p := ⟨g, 0, none⟩) hgl).trans c0
  replace c1 := (b7.cell (p := ⟨g, 1, none⟩) hgl).trans c1
  have hgl7 := Nat.lt_of_lt_of_le hgl b7.size
  have B7 := bthen B5 b7
  clear b7 B5
  go_wp2_with (with_reducible refine (h8 _).mono ?_)
  rintro e w8 ⟨rfl, b8⟩
  replace c0 := (b8.cell (p := ⟨g, 0, none⟩) hgl7).trans c0
  replace c1 := (b8.cell (p := ⟨g, 1, none⟩) hgl7).trans c1
  have hgl8 := Nat.lt_of_lt_of_le hgl7 b8.size
  have B8 := (bthen B7 b8).alloc (bthen B7 b8).size (.cells #[.int .i64 2, .int .u64 9, .int .u64 1] 37)
  have b9 : Below w8.heap.size w8 (w8.alloc (.cells #[.int .i64 2, .int .u64 9, .int .u64 1] 37)) := (Below.refl _ w8).alloc (Nat.le_refl _) _
  replace c0 := (b9.cell (p := ⟨g, 0, none⟩) hgl8).trans c0
  replace c1 := (b9.cell (p := ⟨g, 1, none⟩) hgl8).trans c1
  have k8 := (Blk.new w8 37 #[.int .i64 2, .int .u64 9, .int .u64 1]).cell 1
  simp at k8
  clear b8 b9 B7
  go_wp2_with (with_reducible refine (h9 _).mono ?_)
  rintro e w10 ⟨rfl, b10⟩
  go_wp2_with (with_reducible refine (h10 _).mono ?_)
  rintro e w11 ⟨rfl, b11⟩
  go_wp2
  go_ret
  exact ⟨rfl, bthen (bthen B8 b10) b11⟩
end Go.Proofs.Ytbaahogdgldcpaa
