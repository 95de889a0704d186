/- record.Decode: bytes that begin as a record. -/
import Derived.Test.YtclhdgolcaacbaaDec
namespace Go.Proofs.Ytclhdgolcaacbaa
open Go.RowKit
set_option linter.unusedVariables false
set_option linter.unusedSimpArgs false

set_option maxHeartbeats 4000000 in
theorem Decode_main (s : ByteArray) (hs : s.size = 24) (hbl : blankS s = false) (hmg : byteAt s 0 = 165) (w : World) :
    Calls Try.prog 17 #[.string s] w fun e w' => e = .returned (decV s) ∧ Below w.heap.size w w' := by
  have hd : dec s = if Crc.rev32 (BitVec.ofNat 32 (getN (s.extract 18 22))) ≠ Crc.rangeW s 0 18 then (0, 0, 0, 7)
      else if (byteAt s 1).toNat < 1 ∨ 3 < (byteAt s 1).toNat then (0, 0, 0, 8)
      else if s.extract 22 24 ≠ ⟨#[90, 60]⟩ then (0, 0, 0, 9) else ((byteAt s 1).toNat, getN (s.extract 2 10), getN (s.extract 10 18), 0) := by
    unfold dec; rw [if_neg (by simp [hs]), if_neg (by simp [hbl]), if_neg (by simp [hmg])]
  have hm : s.size ≤ 1000 := by omega
  have hmx : s.size ≤ maxLen := by unfold maxLen; omega
  have e0 : s.extract 0 s.size = s := by simp
  have x0 := ext_one s 0 (by omega)
  have x1 := ext_one s 1 (by omega)
  obtain ⟨X2, x2⟩ : ∃ X, s.extract 2 10 = X := ⟨_, rfl⟩
  obtain ⟨X3, x3⟩ : ∃ X, s.extract 10 18 = X := ⟨_, rfl⟩
  obtain ⟨X4, x4⟩ : ∃ X, s.extract 18 22 = X := ⟨_, rfl⟩
  have z2 : X2.size ≤ 8 := by rw [← x2, ext_size s 2 10 (by omega) (by omega)]; omega
  have z3 : X3.size ≤ 8 := by rw [← x3, ext_size s 10 18 (by omega) (by omega)]; omega
  have z4 : X4.size ≤ 8 := by rw [← x4, ext_size s 18 22 (by omega) (by omega)]; omega
  obtain ⟨c, hc⟩ := get4 X4 (by rw [← x4, ext_size s 18 22 (by omega) (by omega)])
  have hG4 : ∀ W, Calls Try.prog 30 #[.string X4] W fun e w' => e = .returned (.int .u64 (c.toNat : Int)) ∧ W = w' := fun W => by rw [← hc]; exact Get_any X4 z4 W
  have hcl := c.isLt
  clear z4
  obtain ⟨a0, ha0⟩ : ∃ a0, byteAt s 0 = a0 := ⟨_, rfl⟩
  obtain ⟨a1, ha1⟩ : ∃ a1, byteAt s 1 = a1 := ⟨_, rfl⟩
  rw [ha0] at x0
  rw [ha1] at x1
  have hne : (((a0.toNat : Nat) : Int) != 165) = false := by
    rw [ha0] at hmg; rw [hmg]; rfl
  obtain ⟨X5, x5⟩ : ∃ X, s.extract 22 24 = X := ⟨_, rfl⟩
  obtain ⟨R0, hR0⟩ : ∃ R, Crc.rangeW s 0 18 = R := ⟨_, rfl⟩
  have hRg : ∀ W, Calls Try.prog 31 #[.string s, .int .i64 0, .int .i64 18] W fun e w' => e = .returned (Crc.u32 R0) ∧ Below W.heap.size W w' := fun W => by rw [← hR0]; exact Crc.Range_any s hmx 0 18 W
  rw [x2, x3, x4, x5, hc, hR0, ha1, BitVec.ofNat_toNat, BitVec.setWidth_eq] at hd
  have HD := Lib.hid hd
  clear hd hc hmg
  go_enter Try.func17, Try.ntmps17
  go_wp2_with (first | (with_reducible refine (Blank_any _ _).mono ?_; rintro e w1 ⟨rfl, rfl⟩))
  have kR := (Blk.new w 24 #[.int .i64 0, .int .u64 0, .int .u64 0]).alloc (.cells #[.string s] 51)
  have kT : Blk ((w.alloc (.cells #[.int .i64 0, .int .u64 0, .int .u64 0] 24)).alloc (.cells #[.string s] 51)) (w.heap.size + 1) 51 #[.string (s.extract 0 s.size)] := by
    rw [e0]; have h := Blk.new (w.alloc (.cells #[.int .i64 0, .int .u64 0, .int .u64 0] 24)) 51 #[.string s]
    rwa [World.size_alloc] at h
  have B1 : Below w.heap.size w ((w.alloc (.cells #[.int .i64 0, .int .u64 0, .int .u64 0] 24)).alloc (.cells #[.string s] 51)) := ((Below.refl _ w).alloc (Nat.le_refl _) _).alloc (by simp) _
  generalize ((w.alloc (.cells #[.int .i64 0, .int .u64 0, .int .u64 0] 24)).alloc (.cells #[.string s] 51)) = W0 at *
  have kT' := kT.drew
  have h256 : a1.toNat < 256 := a1.toNat_lt
  have hi0 : ((⟨#[a0]⟩ : ByteArray)[0]'(Nat.zero_lt_one)) = a0 := rfl
  have hi1 : ((⟨#[a1]⟩ : ByteArray)[0]'(Nat.zero_lt_one)) = a1 := rfl
  go_region_with (first | (with_reducible refine (take_lit s 0 1 (w.heap.size + 1) 1 rfl _ 1 rfl x0 (by omega) hm _ kT').mono ?_; rintro e w1 ⟨rfl, t1, b1, n1⟩) | (with_reducible refine (take_lit s 1 1 (w.heap.size + 1) 1 rfl _ 2 rfl x1 (by omega) hm _ t1).mono ?_; rintro e w2 ⟨rfl, t2, b2, n2⟩))
  all_goals
    go_wp2_with (first | (with_reducible refine (take_lit s 2 8 (w.heap.size + 1) 8 rfl _ 10 rfl x2 (by omega) hm _ t2).mono ?_; rintro e w3 ⟨rfl, t3, b3, n3⟩) | (with_reducible refine (Get_any X2 z2 _).mono ?_; rintro e w4 ⟨rfl, rfl⟩) | (with_reducible refine (take_lit s 10 8 (w.heap.size + 1) 8 rfl _ 18 rfl x3 (by omega) hm _ t3).mono ?_; rintro e w5 ⟨rfl, t4, b5, n5⟩) | (with_reducible refine (Get_any X3 z3 _).mono ?_; rintro e w6 ⟨rfl, rfl⟩) | (with_reducible refine (take_lit s 18 4 (w.heap.size + 1) 4 rfl _ 22 rfl x4 (by omega) hm _ (t4.alloc _)).mono ?_; rintro e w7 ⟨rfl, t5, b7, n7⟩) | (with_reducible refine (hG4 _).mono ?_; rintro e w8 ⟨rfl, rfl⟩))
    refine (Crc.Rev_any c _).mono ?_
    rintro e w9 ⟨rfl, rfl⟩
    have hB : ∀ {A C : World}, Below (w.heap.size + 1) A C → Below w.heap.size A C := fun h => h.mono (Nat.le_succ _)
    have kR1 := (kR.drew.below b1 (Nat.lt_succ_self _)).below b2 (Nat.lt_succ_self _)
    have kR5 := ((kR1.below b3 (Nat.lt_succ_self _)).below b5 (Nat.lt_succ_self _)).alloc (.cells #[.int .i64 (a1.toNat : Int), .int .u64 (getN X2 : Int), .int .u64 (getN X3 : Int)] 24)
    have kR7 := kR5.below b7 (Nat.lt_succ_self _)
    have hlt := t4.lt
    have kX := Blk.new w5 24 #[.int .i64 (a1.toNat : Int), .int .u64 (getN X2 : Int), .int .u64 (getN X3 : Int)]
    have kX7 := n7 _ _ _ (by omega) kX
    have hx5 : w.heap.size ≠ w5.heap.size := by omega
    have B7 : Below w.heap.size w w7 := ((B1.drew.trans (hB b1)).trans ((hB b2).trans ((hB b3).trans (hB b5)))).trans (((Below.refl _ w5).alloc (by omega) (.cells #[.int .i64 (a1.toNat : Int), .int .u64 (getN X2 : Int), .int .u64 (getN X3 : Int)] 24)).trans (hB b7))
    generalize w5.heap.size = A5 at *
    have t5c := t5.cell 0
    clear n1 n2 n3 n5 n7 t1 t2 t3 t4 b1 b2 b3 b5 b7 kR1 kR5 kX kT kT' kR B1 hB
    have r0 := kR7.cell 0
    have r1 := kR7.cell 1
    have r2 := kR7.cell 2
    have f0 := kR7.frozen 0
    have f1 := kR7.frozen 1
    have f2 := kR7.frozen 2
    rw [hs, x5] at t5
    go_wp2_with (with_reducible refine (hRg _).mono ?_)
    rintro e w10 ⟨rfl, b9⟩
    have t6 := (t5.below b9 t5.lt).cell 0
    have kR8 := kR7.below b9 kR7.lt
    have kX8 := kX7.below b9 kX7.lt
    have B8 := B7.trans (b9.mono B7.size)
    clear t5 t5c kR7 kX7 B7 b9 r0 r1 r2 f0 f1 f2
    have r0 := kR8.cell 0
    have r1 := kR8.cell 1
    have r2 := kR8.cell 2
    have f0 := kR8.frozen 0
    have f1 := kR8.frozen 1
    have f2 := kR8.frozen 2
    have y0 := kX8.cell 0
    have y1 := kX8.cell 1
    have y2 := kX8.cell 2
    by_cases hk : Crc.rev32 c = R0
    · have g1 : (((Crc.rev32 c).toNat : Int) != (R0.toNat : Int)) = false := by rw [hk]; simp
      by_cases hk2 : a1.toNat < 1 ∨ 3 < a1.toNat
      · have hd : dec s = (0, 0, 0, 8) := by rw [HD.out, if_neg (by simp [hk]), if_pos hk2]
        rcases hk2 with hk2 | hk2
        · go_wp2
          exact dec_end s w _ _ 0 0 0 8 rfl rfl rfl (dec_sets kR8 _ _ _) (dec_bel B8 _ _ _) hd
        · go_wp2
          exact dec_end s w _ _ 0 0 0 8 rfl rfl rfl (dec_sets kR8 _ _ _) (dec_bel B8 _ _ _) hd
      · have g2 : decide ((a1.toNat : Int) < 1) = false := by simp; omega
        have g3 : decide (3 < (a1.toNat : Int)) = false := by simp; omega
        by_cases hk3 : X5 = ⟨#[90, 60]⟩
        · have hd : dec s = (a1.toNat, getN X2, getN X3, 0) := by rw [HD.out, if_neg (by simp [hk]), if_neg hk2, if_neg (by simp [hk3])]
          subst hk3
          clear hk2
          go_wp2
          exact dec_end s w _ _ a1.toNat (getN X2) (getN X3) 0 rfl rfl rfl (dec_sets (dec_sets kR8 _ _ _) _ _ _) (dec_bel (dec_bel B8 _ _ _) _ _ _) hd
        · have hd : dec s = (0, 0, 0, 9) := by rw [HD.out, if_neg (by simp [hk]), if_neg hk2, if_pos hk3]
          have g4 : (!X5.toList == [90, 60]) = true := by
            rw [toList_data]; simp; intro h; exact hk3 (ByteArray.ext (Array.ext' h))
          clear hk2
          go_wp2
          exact dec_end s w _ _ 0 0 0 9 rfl rfl rfl (dec_sets kR8 _ _ _) (dec_bel B8 _ _ _) hd
    · have hd : dec s = (0, 0, 0, 7) := by rw [HD.out, if_pos hk]
      have g1 : (((Crc.rev32 c).toNat : Int) != (R0.toNat : Int)) = true := by
        simp; intro h; exact hk (BitVec.eq_of_toNat_eq (by omega))
      go_wp2
      exact dec_end s w _ _ 0 0 0 7 rfl rfl rfl (dec_sets kR8 _ _ _) (dec_bel B8 _ _ _) hd
end Go.Proofs.Ytclhdgolcaacbaa
