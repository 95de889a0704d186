/- The walk of the law FlashErases. -/
import Derived.Test.YtcpcceeggjjifaaFlashA
import Derived.Test.YtcpcceeggjjifaaFlashEq
namespace Go.Proofs.Ytcpcceeggjjifaa
open Go.RowKit
set_option linter.unusedVariables false
set_option linter.unusedSimpArgs false

/-- the flash behind i erases of bank k -/
def erI (k : Int) (z n i : Nat) : Fl := ⟨fullB z, fullB z, if k = 0 then i else 0, if k = 0 then 0 else i, n⟩
theorem erI_ok (k : Int) (z n i : Nat) (hz : z ≤ 500) (hn : n ≤ 100) (hi : i ≤ 100) : (erI k z n i).ok := by
  have w : ∀ j : Int, 0 ≤ j → j ≤ 1000 → (Lit.int .i64 j).wf = true := fun j h1 h2 => by simp [Lit.wf, IntKind.min, IntKind.max, IntKind.signed, IntKind.bits]; omega
  exact ⟨by unfold erI; simp only; split <;> exact w _ (by omega) (by omega), by unfold erI; simp only; split <;> exact w _ (by omega) (by omega), w _ (by show (0 : Int) ≤ (n : Int); omega) (by show (n : Int) ≤ 1000; omega), by show (fullB z).size ≤ 500; rw [fullB_size]; exact hz, by show (fullB z).size ≤ 500; rw [fullB_size]; exact hz⟩
theorem erI_new (k : Int) (z n : Nat) (hz : z ≤ 255) (hn : n ≤ 100) : newF z n = erI k z n 0 := by
  unfold newF erI
  rw [if_neg (by omega), Int.toNat_natCast]
  split <;> rfl
theorem erI_step (k : Int) (hk : k = 0 ∨ k = 1) (z n i : Nat) (hi : i < n) : erE (erI k z n i) k = 0 ∧ erF (erI k z n i) k = erI k z n (i + 1) := by
  rcases hk with rfl | rfl
  · have h : erE (erI 0 z n i) 0 = 0 := by unfold erE; rw [if_neg (by omega), if_neg (by show ¬ ((n : Int) ≤ (i : Int)); omega)]
    refine ⟨h, ?_⟩
    rw [show erF (erI 0 z n i) 0 = _ from if_pos h]
    unfold erI Fl.put Fl.wear Fl.worn Fl.bank
    simp [fullB_size]
  · have h : erE (erI 1 z n i) 1 = 0 := by unfold erE; rw [if_neg (by omega), if_neg (by show ¬ ((n : Int) ≤ (i : Int)); omega)]
    refine ⟨h, ?_⟩
    rw [show erF (erI 1 z n i) 1 = _ from if_pos h]
    unfold erI Fl.put Fl.wear Fl.worn Fl.bank
    simp [fullB_size]
theorem erI_last (k : Int) (hk : k = 0 ∨ k = 1) (z n : Nat) : erE (erI k z n n) k = 4 := by
  rcases hk with rfl | rfl
  · unfold erE; rw [if_neg (by omega), if_pos (by show ((n : Int) ≤ (n : Int)); omega)]
  · unfold erE; rw [if_neg (by omega), if_pos (by show ((n : Int) ≤ (n : Int)); omega)]
theorem erE_arg (f : Fl) (k : Int) (h0 : k ≠ 0) (h1 : k ≠ 1) : erE f k = 1 ∧ erF f k = f := by
  have h : erE f k = 1 := by unfold erE; rw [if_pos ⟨h0, h1⟩]
  exact ⟨h, if_neg (by omega)⟩
theorem full_is_blank (n : Nat) : blankS (fullB n) = true := by
  unfold blankS fullB; simp


/-- a bank that is none -/
theorem erases_arg (z m : Nat) (k : Int) (hz : z < 256) (hm : m < 256) (hk : (Lit.int .i64 k).wf = true) (h0 : k ≠ 0) (h1 : k ≠ 1) (w : World) :
    Calls Try.prog 5 #[.int .u8 (z : Int), .int .u8 (m : Int), .int .i64 k] w fun e w' => e = .returned (.bool true) ∧ Below w.heap.size w w' := by
  have n0 : (k != 0) = true := by simpa using h0
  have n1 : (k != 1) = true := by simpa using h1
  obtain ⟨n, hn⟩ : ∃ n, n = m % 20 := ⟨_, rfl⟩
  have hmod : (m : Int) % 20 = (n : Int) := by omega
  have hn20 : n < 20 := by omega
  clear hn
  have ok := erI_ok k z n 0 (by omega) (by omega) (by omega)
  have c1 := New_any z n
  rw [erI_new k z n (by omega) (by omega)] at c1
  have c2 := Erase_any _ ok k hk
  rw [(erE_arg _ k h0 h1).1, (erE_arg _ k h0 h1).2] at c2
  generalize erI k z n 0 = F at *
  dsimp only [flV] at c1 c2
  have HM := Lib.hid hmod
  have q1 := eq_strs F.a F.b F.a F.b
  have q2 := eq_ints F.x F.y F.x F.y
  simp at q1 q2
  have HQ1 := Lib.hid q1
  have HQ2 := Lib.hid q2
  clear q1 q2 h0 h1 ok
  go_enter Try.func5, Try.ntmps5
  go_wp2_with (with_reducible refine (c1 _).mono ?_)
  rintro e w1 ⟨rfl, b1⟩
  simp only [hmod]
  clear hmod
  have kf := Blk.new w1 28 (flashC F.a F.b F.x F.y F.l)
  have B1 := b1.alloc b1.size (.cells (flashC F.a F.b F.x F.y F.l) 28)
  go_wp2_with fail
  go_loopw [9] (fun i wr => i = .int .i64 0 ∧ Blk wr w1.heap.size 28 (flashC F.a F.b F.x F.y F.l) ∧ Below w.heap.size w wr) (fun i _ => 0)
  case atStart => exact ⟨rfl, kf, B1⟩
  case round =>
    obtain ⟨rfl, kr, Br⟩ := hrel
    clear kf B1 b1
    have r_0 := kr.cell 0
    have r_1 := kr.cell 1
    have r_2 := kr.cell 2
    have r_3 := kr.cell 3
    have r_4 := kr.cell 4
    simp [flashC] at r_0 r_1 r_2 r_3 r_4
    by_cases hp : 0 < n
    · go_wp2_with (with_reducible refine (c2 _).mono ?_)
      rintro e w2 ⟨rfl, b2⟩
      have kr2 := (kr.below b2 kr.lt).alloc (.cells (flashC F.a F.b F.x F.y F.l) 28)
      have ka2 := Blk.new w2 28 (flashC F.a F.b F.x F.y F.l)
      have B2 := (bthen Br b2).alloc (bthen Br b2).size (.cells (flashC F.a F.b F.x F.y F.l) 28)
      clear r_0 r_1 r_2 r_3 r_4
      have r_0 := kr2.cell 0
      have r_1 := kr2.cell 1
      have r_2 := kr2.cell 2
      have r_3 := kr2.cell 3
      have r_4 := kr2.cell 4
      simp [flashC] at r_0 r_1 r_2 r_3 r_4
      have s_0 := ka2.cell 0
      have s_1 := ka2.cell 1
      have s_2 := ka2.cell 2
      have s_3 := ka2.cell 3
      have s_4 := ka2.cell 4
      simp [flashC] at s_0 s_1 s_2 s_3 s_4
      have q1 := HQ1.out
      have q2 := HQ2.out
      go_wp2_with (with_reducible refine (shown_any _).mono ?_; rintro e w3 ⟨rfl, b3⟩)
      go_ret
      exact ⟨rfl, bthen B2 b3⟩
    · go_wp2_with (with_reducible refine (c2 _).mono ?_)
      rintro e w2 ⟨rfl, b2⟩
      have B2 := (bthen Br b2).alloc (bthen Br b2).size (.cells (flashC F.a F.b F.x F.y F.l) 28)
      go_wp2_with (with_reducible refine (shown_any _).mono ?_; rintro e w3 ⟨rfl, b3⟩)
      go_ret
      exact ⟨rfl, bthen B2 b3⟩

set_option maxRecDepth 100000 in
set_option maxHeartbeats 4000000 in
theorem erases_0 (z m : Nat) (hz : z < 256) (hm : m < 256) (w : World) :
    Calls Try.prog 5 #[.int .u8 (z : Int), .int .u8 (m : Int), .int .i64 0] w fun e w' => e = .returned (.bool true) ∧ Below w.heap.size w w' := by
  obtain ⟨n, hn⟩ : ∃ n, n = m % 20 := ⟨_, rfl⟩
  have hmod : (m : Int) % 20 = (n : Int) := by omega
  have hn20 : n < 20 := by omega
  clear hn
  have c1 := New_any z n
  rw [erI_new 0 z n (by omega) (by omega)] at c1
  have c2 : ∀ i, i < n → ∀ W, Calls Try.prog 19 #[flV (erI 0 z n i), .int .i64 0] W fun e w' => e = .returned (.tuple #[flV (erI 0 z n (i + 1)), .int .i64 0]) ∧ Below W.heap.size W w' := fun i hi W => by
    have h := Erase_any _ (erI_ok 0 z n i (by omega) (by omega) (by omega)) 0 (by decide) W
    rw [(erI_step 0 (by decide) z n i hi).1, (erI_step 0 (by decide) z n i hi).2] at h
    exact h
  have c3 := Erase_any _ (erI_ok 0 z n n (by omega) (by omega) (by omega)) 0 (by decide)
  rw [erI_last 0 (by decide)] at c3
  have c4 := Blank_any (fullB z)
  rw [full_is_blank] at c4
  have hfz := fullB_size z
  simp only [erI, flV, if_true, show ¬ ((1 : Int) = 0) by decide, if_false] at c1 c2
  generalize erF (erI 0 z n n) 0 = G at c3
  dsimp only [flV, erI] at c3
  simp only [if_true, show ¬ ((1 : Int) = 0) by decide, if_false] at c3
  generalize fullB z = F at *
  have HZ := Lib.hid hfz
  have HC2 := Lib.hid c2
  clear hfz c2
  go_enter Try.func5, Try.ntmps5
  go_wp2_with (with_reducible refine (c1 _).mono ?_)
  rintro e w1 ⟨rfl, b1⟩
  simp only [hmod]
  clear hmod
  have kf := Blk.new w1 28 (flashC F F 0 0 n)
  have B1 := b1.alloc b1.size (.cells (flashC F F 0 0 n) 28)
  go_wp2_with fail
  go_loopw [9] (fun i wr => ∃ j : Nat, j ≤ n ∧ i = .int .i64 j ∧ Blk wr w1.heap.size 28 (flashC F F j 0 n) ∧ Below w.heap.size w wr) (fun i _ => n - (intOf i).toNat)
  case atStart => exact ⟨0, by omega, rfl, kf, B1⟩
  case round =>
    obtain ⟨j, hj, rfl, kr, Br⟩ := hrel
    clear kf B1
    have r_0 := kr.cell 0
    have r_1 := kr.cell 1
    have r_2 := kr.cell 2
    have r_3 := kr.cell 3
    have r_4 := kr.cell 4
    simp [flashC] at r_0 r_1 r_2 r_3 r_4
    by_cases hp : j < n
    · have cj := HC2.out j hp
      go_wp2_with (with_reducible refine (cj _).mono ?_)
      rintro e w2 ⟨rfl, b2⟩
      have kr2 := (kr.below b2 kr.lt).alloc (.cells (flashC F F ((j : Int) + 1) 0 n) 28)
      have ka2 := Blk.new w2 28 (flashC F F ((j : Int) + 1) 0 n)
      have B2 := (bthen Br b2).alloc (bthen Br b2).size (.cells (flashC F F ((j : Int) + 1) 0 n) 28)
      clear cj
      clear r_0 r_1 r_2 r_3 r_4
      have r_0 := kr2.cell 0
      have r_1 := kr2.cell 1
      have r_2 := kr2.cell 2
      have r_3 := kr2.cell 3
      have r_4 := kr2.cell 4
      simp [flashC] at r_0 r_1 r_2 r_3 r_4
      have s_0 := ka2.cell 0
      have s_1 := ka2.cell 1
      have s_2 := ka2.cell 2
      have s_3 := ka2.cell 3
      have s_4 := ka2.cell 4
      simp [flashC] at s_0 s_1 s_2 s_3 s_4
      have hfz := HZ.out
      go_wp2_with fail
      clear r_0 r_1 r_2 r_3 r_4
      clear s_0 s_1 s_2 s_3 s_4
      generalize w2.alloc (.cells #[.string F, .string F, .int .i64 ((j : Int) + 1), .int .i64 0, .int .i64 n] 28) = W3 at *
      replace kr2 : Blk W3 w1.heap.size 28 (flashC F F j 0 n) := kr2
      replace ka2 : Blk W3 w2.heap.size 28 (flashC F F ((j : Int) + 1) 0 n) := ka2
      have r_0 := kr2.cell 0
      have r_1 := kr2.cell 1
      have r_2 := kr2.cell 2
      have r_3 := kr2.cell 3
      have r_4 := kr2.cell 4
      simp [flashC] at r_0 r_1 r_2 r_3 r_4
      have s_0 := ka2.cell 0
      have s_1 := ka2.cell 1
      have s_2 := ka2.cell 2
      have s_3 := ka2.cell 3
      have s_4 := ka2.cell 4
      simp [flashC] at s_0 s_1 s_2 s_3 s_4
      have r_5 := kr2.frozen 0
      have r_6 := kr2.frozen 1
      have r_7 := kr2.frozen 2
      have r_8 := kr2.frozen 3
      have r_9 := kr2.frozen 4
      go_wp2_with (with_reducible refine (c4 _).mono ?_; rintro e w3 ⟨rfl, rfl⟩)
      obtain ⟨kr3, B3⟩ := five_stores (v0 := .string F) (v1 := .string F) (v2 := .int .i64 ((j : Int) + 1)) (v3 := .int .i64 0) (v4 := .int .i64 n) kr2 B2 b1.size
      refine ⟨?_, ?_⟩
      · (repeat apply Exists.intro)
        exact ⟨⟨j + 1, by omega, by go_num, kr3, B3⟩, rfl⟩
      · simp [intOf]; omega
    · obtain rfl : j = n := by omega
      go_wp2_with (with_reducible refine (c3 _).mono ?_)
      rintro e w2 ⟨rfl, b2⟩
      have B2 := (bthen Br b2).alloc (bthen Br b2).size (.cells (flashC G.a G.b G.x G.y G.l) 28)
      go_wp2_with (with_reducible refine (shown_any _).mono ?_; rintro e w3 ⟨rfl, b3⟩)
      go_ret
      exact ⟨rfl, bthen B2 b3⟩
set_option maxRecDepth 100000 in
set_option maxHeartbeats 4000000 in
theorem erases_1 (z m : Nat) (hz : z < 256) (hm : m < 256) (w : World) :
    Calls Try.prog 5 #[.int .u8 (z : Int), .int .u8 (m : Int), .int .i64 1] w fun e w' => e = .returned (.bool true) ∧ Below w.heap.size w w' := by
  obtain ⟨n, hn⟩ : ∃ n, n = m % 20 := ⟨_, rfl⟩
  have hmod : (m : Int) % 20 = (n : Int) := by omega
  have hn20 : n < 20 := by omega
  clear hn
  have c1 := New_any z n
  rw [erI_new 1 z n (by omega) (by omega)] at c1
  have c2 : ∀ i, i < n → ∀ W, Calls Try.prog 19 #[flV (erI 1 z n i), .int .i64 1] W fun e w' => e = .returned (.tuple #[flV (erI 1 z n (i + 1)), .int .i64 0]) ∧ Below W.heap.size W w' := fun i hi W => by
    have h := Erase_any _ (erI_ok 1 z n i (by omega) (by omega) (by omega)) 1 (by decide) W
    rw [(erI_step 1 (by decide) z n i hi).1, (erI_step 1 (by decide) z n i hi).2] at h
    exact h
  have c3 := Erase_any _ (erI_ok 1 z n n (by omega) (by omega) (by omega)) 1 (by decide)
  rw [erI_last 1 (by decide)] at c3
  have c4 := Blank_any (fullB z)
  rw [full_is_blank] at c4
  have hfz := fullB_size z
  simp only [erI, flV, if_true, show ¬ ((1 : Int) = 0) by decide, if_false] at c1 c2
  generalize erF (erI 1 z n n) 1 = G at c3
  dsimp only [flV, erI] at c3
  simp only [if_true, show ¬ ((1 : Int) = 0) by decide, if_false] at c3
  generalize fullB z = F at *
  have HZ := Lib.hid hfz
  have HC2 := Lib.hid c2
  clear hfz c2
  go_enter Try.func5, Try.ntmps5
  go_wp2_with (with_reducible refine (c1 _).mono ?_)
  rintro e w1 ⟨rfl, b1⟩
  simp only [hmod]
  clear hmod
  have kf := Blk.new w1 28 (flashC F F 0 0 n)
  have B1 := b1.alloc b1.size (.cells (flashC F F 0 0 n) 28)
  go_wp2_with fail
  go_loopw [9] (fun i wr => ∃ j : Nat, j ≤ n ∧ i = .int .i64 j ∧ Blk wr w1.heap.size 28 (flashC F F 0 j n) ∧ Below w.heap.size w wr) (fun i _ => n - (intOf i).toNat)
  case atStart => exact ⟨0, by omega, rfl, kf, B1⟩
  case round =>
    obtain ⟨j, hj, rfl, kr, Br⟩ := hrel
    clear kf B1
    have r_0 := kr.cell 0
    have r_1 := kr.cell 1
    have r_2 := kr.cell 2
    have r_3 := kr.cell 3
    have r_4 := kr.cell 4
    simp [flashC] at r_0 r_1 r_2 r_3 r_4
    by_cases hp : j < n
    · have cj := HC2.out j hp
      go_wp2_with (with_reducible refine (cj _).mono ?_)
      rintro e w2 ⟨rfl, b2⟩
      have kr2 := (kr.below b2 kr.lt).alloc (.cells (flashC F F 0 ((j : Int) + 1) n) 28)
      have ka2 := Blk.new w2 28 (flashC F F 0 ((j : Int) + 1) n)
      have B2 := (bthen Br b2).alloc (bthen Br b2).size (.cells (flashC F F 0 ((j : Int) + 1) n) 28)
      clear cj
      clear r_0 r_1 r_2 r_3 r_4
      have r_0 := kr2.cell 0
      have r_1 := kr2.cell 1
      have r_2 := kr2.cell 2
      have r_3 := kr2.cell 3
      have r_4 := kr2.cell 4
      simp [flashC] at r_0 r_1 r_2 r_3 r_4
      have s_0 := ka2.cell 0
      have s_1 := ka2.cell 1
      have s_2 := ka2.cell 2
      have s_3 := ka2.cell 3
      have s_4 := ka2.cell 4
      simp [flashC] at s_0 s_1 s_2 s_3 s_4
      have hfz := HZ.out
      go_wp2_with fail
      clear r_0 r_1 r_2 r_3 r_4
      clear s_0 s_1 s_2 s_3 s_4
      generalize w2.alloc (.cells #[.string F, .string F, .int .i64 0, .int .i64 ((j : Int) + 1), .int .i64 n] 28) = W3 at *
      replace kr2 : Blk W3 w1.heap.size 28 (flashC F F 0 j n) := kr2
      replace ka2 : Blk W3 w2.heap.size 28 (flashC F F 0 ((j : Int) + 1) n) := ka2
      have r_0 := kr2.cell 0
      have r_1 := kr2.cell 1
      have r_2 := kr2.cell 2
      have r_3 := kr2.cell 3
      have r_4 := kr2.cell 4
      simp [flashC] at r_0 r_1 r_2 r_3 r_4
      have s_0 := ka2.cell 0
      have s_1 := ka2.cell 1
      have s_2 := ka2.cell 2
      have s_3 := ka2.cell 3
      have s_4 := ka2.cell 4
      simp [flashC] at s_0 s_1 s_2 s_3 s_4
      have r_5 := kr2.frozen 0
      have r_6 := kr2.frozen 1
      have r_7 := kr2.frozen 2
      have r_8 := kr2.frozen 3
      have r_9 := kr2.frozen 4
      go_wp2_with (with_reducible refine (c4 _).mono ?_; rintro e w3 ⟨rfl, rfl⟩)
      obtain ⟨kr3, B3⟩ := five_stores (v0 := .string F) (v1 := .string F) (v2 := .int .i64 0) (v3 := .int .i64 ((j : Int) + 1)) (v4 := .int .i64 n) kr2 B2 b1.size
      refine ⟨?_, ?_⟩
      · (repeat apply Exists.intro)
        exact ⟨⟨j + 1, by omega, by go_num, kr3, B3⟩, rfl⟩
      · simp [intOf]; omega
    · obtain rfl : j = n := by omega
      go_wp2_with (with_reducible refine (c3 _).mono ?_)
      rintro e w2 ⟨rfl, b2⟩
      have B2 := (bthen Br b2).alloc (bthen Br b2).size (.cells (flashC G.a G.b G.x G.y G.l) 28)
      go_wp2_with (with_reducible refine (shown_any _).mono ?_; rintro e w3 ⟨rfl, b3⟩)
      go_ret
      exact ⟨rfl, bthen B2 b3⟩

theorem FlashErases_walk (z m k : Int) (hz : (Lit.int .u8 z).wf = true) (hm : (Lit.int .u8 m).wf = true) (hk : (Lit.int .i64 k).wf = true) (w : World) :
    Calls Try.prog 5 #[.int .u8 z, .int .u8 m, .int .i64 k] w fun e w' => e = .returned (.bool true) ∧ Below w.heap.size w w' := by
  obtain ⟨z, rfl, gz⟩ := u8_nat z hz
  obtain ⟨m, rfl, gm⟩ := u8_nat m hm
  by_cases h0 : k = 0
  · subst h0; exact erases_0 z m gz gm w
  · by_cases h1 : k = 1
    · subst h1; exact erases_1 z m gz gm w
    · exact erases_arg z m k gz gm hk h0 h1 w
end Go.Proofs.Ytcpcceeggjjifaa
