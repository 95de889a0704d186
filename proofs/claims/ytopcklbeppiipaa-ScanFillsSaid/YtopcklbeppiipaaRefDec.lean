/- dogwatchref07.Decode: it answers as record.Decode. -/
import Derived.Test.YtopcklbeppiipaaRefRec
import Derived.Test.YtopcklbeppiipaaGood
import Derived.Test.YtopcklbeppiipaaRecMath
import Derived.Test.YtopcklbeppiipaaCalm
import Derived.Deep.RegionHeld3
import Derived.Deep.DrawnRows
namespace Go.Proofs.Ytopcklbeppiipaa
open Go.RowKit
attribute [local go_sem ↓] Go.wp_at_zero Go.wp_at_succ
set_option linter.unusedVariables false
set_option linter.unusedSimpArgs false

theorem sum_ok (s : ByteArray) (h : s.size = 24) : Crc.rev32 (BitVec.ofNat 32 (getN (s.extract 18 22))) = Crc.rangeW s 0 18 ↔ s.extract 18 22 = lowB (Crc.sumS (s.extract 0 18)) := by
  have hl : (s.extract 18 22).data.toList.length = 4 := by
    rw [Array.length_toList]
    show (s.extract 18 22).size = 4
    rw [ByteArray.size_extract]; omega
  rw [Crc.rangeW_some s 0 18 0 18 (by omega) (by omega) (by omega)]
  unfold getN
  rw [check_iff _ hl]
  constructor
  · intro e
    apply ByteArray.ext
    apply Array.ext'
    rw [e]; rfl
  · intro e
    rw [e]; rfl

theorem rdec_result (tmps : Array Value) (F : World) (B : Nat) (k : Int) (n d : Int) (E : Int) (h2 : tmps.getD 2 undef = .pointer (some ⟨B, 0, none⟩)) (h3 : tmps.getD 3 undef = .int .i64 E)
    (hF : Blk F B 31 #[.int .i64 k, .int .u64 n, .int .u64 d]) :
    (results Try.f22 tmps).run Try.prog F = .ok (.tuple #[.agg #[.int .i64 k, .int .u64 n, .int .u64 d], .int .i64 E]) F := by
  have r0 := hF.cell 0
  have r1 := hF.cell 1
  have r2 := hF.cell 2
  rw [Array.getD_eq_getD_getElem?] at h2 h3
  simp [results, Try.f22, go_sem, h2, h3, r0, r1, r2]

theorem rdec_end (s : ByteArray) (w F : World) (a : Act) (k n d : Nat) (E : Int) (ha : a.defers = []) (h2 : a.tmps.getD 2 undef = .pointer (some ⟨w.heap.size, 0, none⟩)) (h3 : a.tmps.getD 3 undef = .int .i64 E)
    (hF : Blk F w.heap.size 31 #[.int .i64 (k : Int), .int .u64 (n : Int), .int .u64 (d : Int)]) (hb : Below w.heap.size w F) (hd : dec s = (k, n, d, E)) :
    bodyPost Try.prog Try.f22 (fun e w' => e = .returned (decV s) ∧ Below w.heap.size w w') Exit.ret a F := by
  refine ⟨ha, _, rdec_result _ F w.heap.size _ _ _ E h2 h3 hF, ?_, hb⟩
  unfold decV decK decN decD decE
  rw [hd]

theorem rdec_sets {W : World} {B : Nat} {a b c : Value} (hR : Blk W B 31 #[a, b, c]) (x y z : Value) :
    Blk (((W.setCell ⟨B, 0, none⟩ x).setCell ⟨B, 1, none⟩ y).setCell ⟨B, 2, none⟩ z) B 31 #[x, y, z] := by
  simpa using ((hR.set 0 x).set 1 y).set 2 z


theorem rDecode_out (s : ByteArray) (hs : s.size ≤ 100) (h : s.size ≠ 24 ∨ (s.size = 24 ∧ blankS s = true) ∨ (s.size = 24 ∧ blankS s = false ∧ byteAt s 0 ≠ 165)) (w : World) :
    Calls Try.prog 22 #[.string s] w fun e w' => e = .returned (decV s) ∧ Below w.heap.size w w' := by
  have hBl := rBlank_any s (by omega)
  rcases h with h | ⟨h, h2⟩ | ⟨h, h2, h3⟩
  · have hd : dec s = (0, 0, 0, 1) := by unfold dec; rw [if_pos h]
    have hne : ((s.size : Int) != 24) = true := by simp; omega
    have kR := Blk.new w 31 #[.int .i64 0, .int .u64 0, .int .u64 0]
    have B1 : Below w.heap.size w (w.alloc (.cells #[.int .i64 0, .int .u64 0, .int .u64 0] 31)) := (Below.refl _ w).alloc (Nat.le_refl _) _
    go_enter Try.func22, Try.ntmps22
    go_wp2
    exact rdec_end s w _ _ 0 0 0 1 rfl rfl rfl kR B1 hd
  · have hd : dec s = (0, 0, 0, 5) := by unfold dec; rw [if_neg (by simp [h]), if_pos h2]
    rw [h2] at hBl
    have kR := Blk.new w 31 #[.int .i64 0, .int .u64 0, .int .u64 0]
    have B1 : Below w.heap.size w (w.alloc (.cells #[.int .i64 0, .int .u64 0, .int .u64 0] 31)) := (Below.refl _ w).alloc (Nat.le_refl _) _
    go_enter Try.func22, Try.ntmps22
    go_wp2_with (with_reducible refine (hBl _).mono ?_; rintro e w1 ⟨rfl, rfl⟩)
    exact rdec_end s w _ _ 0 0 0 5 rfl rfl rfl kR B1 hd
  · have hd : dec s = (0, 0, 0, 6) := by unfold dec; rw [if_neg (by simp [h]), if_neg (by simp [h2]), if_pos h3]
    rw [h2] at hBl
    have q0 : s[0]'(by omega) = byteAt s 0 := by unfold byteAt; rw [List.getD_eq_getElem?_getD, List.getElem?_eq_getElem (by simp; omega)]; rfl
    obtain ⟨a0, ha0⟩ : ∃ a0, byteAt s 0 = a0 := ⟨_, rfl⟩
    rw [ha0] at q0 h3
    have hne : (((a0.toNat : Nat) : Int) != 165) = true := by
      simp; intro h; exact h3 (UInt8.toNat_inj.1 (by show a0.toNat = 165; omega))
    clear ha0 h3 h2
    have kR := Blk.new w 31 #[.int .i64 0, .int .u64 0, .int .u64 0]
    have B1 : Below w.heap.size w (w.alloc (.cells #[.int .i64 0, .int .u64 0, .int .u64 0] 31)) := (Below.refl _ w).alloc (Nat.le_refl _) _
    go_enter Try.func22, Try.ntmps22
    go_wp2_with (with_reducible refine (hBl _).mono ?_; rintro e w1 ⟨rfl, rfl⟩)
    exact rdec_end s w _ _ 0 0 0 6 rfl rfl rfl kR B1 hd

set_option maxHeartbeats 4000000 in
theorem rDecode_in (s : ByteArray) (h : s.size = 24) (h2 : blankS s = false) (h3 : byteAt s 0 = 165) (w : World) :
    Calls Try.prog 22 #[.string s] w fun e w' => e = .returned (decV s) ∧ Below w.heap.size w w' := by
  have hd : dec s = if ¬ (s.extract 18 22 = lowB (Crc.sumS (s.extract 0 18))) then (0, 0, 0, 7)
      else if (byteAt s 1).toNat < 1 ∨ 3 < (byteAt s 1).toNat then (0, 0, 0, 8)
      else if s.extract 22 24 ≠ ⟨#[90, 60]⟩ then (0, 0, 0, 9) else ((byteAt s 1).toNat, getN (s.extract 2 10), getN (s.extract 10 18), 0) := by
    unfold dec; rw [if_neg (by simp [h]), if_neg (by simp [h2]), if_neg (by simp [h3])]
    simp only [ne_eq, sum_ok s h]
  have hBl := rBlank_any s (by omega)
  rw [h2] at hBl
  have q0 : s[0]'(by omega) = byteAt s 0 := by unfold byteAt; rw [List.getD_eq_getElem?_getD, List.getElem?_eq_getElem (by simp; omega)]; rfl
  have q1 : s[1]'(by omega) = byteAt s 1 := by unfold byteAt; rw [List.getD_eq_getElem?_getD, List.getElem?_eq_getElem (by simp; omega)]; rfl
  rw [h3] at q0
  obtain ⟨a1, ha1⟩ : ∃ a1, byteAt s 1 = a1 := ⟨_, rfl⟩
  rw [ha1] at q1 hd
  have z1 : (s.extract 0 18).size ≤ maxLen := by rw [ByteArray.size_extract]; unfold maxLen; omega
  have hSum := Crc.rSum_any (s.extract 0 18) z1
  have hLow := rlow_any (Crc.sumS (s.extract 0 18))
  generalize lowB (Crc.sumS (s.extract 0 18)) = L at *
  obtain ⟨X, x1⟩ : ∃ X, s.extract 0 18 = X := ⟨_, rfl⟩
  obtain ⟨Y, x2⟩ : ∃ Y, s.extract 18 22 = Y := ⟨_, rfl⟩
  obtain ⟨M, x3⟩ : ∃ M, s.extract 22 24 = M := ⟨_, rfl⟩
  obtain ⟨N, x4⟩ : ∃ N, s.extract 2 10 = N := ⟨_, rfl⟩
  obtain ⟨D, x5⟩ : ∃ D, s.extract 10 18 = D := ⟨_, rfl⟩
  have z4 : N.size ≤ 8 := by rw [← x4, ByteArray.size_extract]; omega
  have z5 : D.size ≤ 8 := by rw [← x5, ByteArray.size_extract]; omega
  have hN := rGet_any N z4
  have hD := rGet_any D z5
  rw [x1] at hSum hLow
  rw [x2, x3, x4, x5] at hd
  have HX3 := Lib.hid x3
  have HX4 := Lib.hid x4
  have HX5 := Lib.hid x5
  have HD := Lib.hid hd
  have hl : s.size = 24 := h
  clear hd h2 h3 ha1 z1 x3 x4 x5
  generalize Crc.sumS X = S at *
  by_cases hS : Y = L
  · have hc : (Y.toList == L.toList) = true := by rw [hS]; simp
    by_cases hk : a1.toNat < 1 ∨ 3 < a1.toNat
    · have hd : dec s = (0, 0, 0, 8) := by rw [HD.out, if_neg (by simp [hS]), if_pos hk]
      have hk2 : a1.toNat < 1 ∨ (1 ≤ a1.toNat ∧ 3 < a1.toNat) := by omega
      clear hS hk
      rcases hk2 with h1 | ⟨h1, h4⟩
      all_goals
        have kR := Blk.new w 31 #[.int .i64 0, .int .u64 0, .int .u64 0]
        have B1 : Below w.heap.size w (w.alloc (.cells #[.int .i64 0, .int .u64 0, .int .u64 0] 31)) := (Below.refl _ w).alloc (Nat.le_refl _) _
        go_enter Try.func22, Try.ntmps22
        go_wp2_with (with_reducible refine (hBl _).mono ?_; rintro e w1 ⟨rfl, rfl⟩)
        generalize w.alloc (.cells #[.int .i64 0, .int .u64 0, .int .u64 0] 31) = W0 at *
        (refine wp_region_calm (W0.heap.size) (by kernel_rfl) (by kernel_rfl) ?_; (repeat (go_big_quiet_step ((first | (with_reducible refine calm_same (hSum _)) | (with_reducible refine calm_of (Nat.le_refl _) (hLow _)))))); refine wpQuiet_nil ?_; intro W1 hw'; obtain ⟨⟨_, hW1⟩, hw''⟩ := hw'; subst hw'')
        have k1 := kR.below hW1 kR.lt
        have B2 := bthen B1 hW1
        clear kR B1 hW1
        have r0 := k1.cell 0
        have r1 := k1.cell 1
        have r2 := k1.cell 2
        have f0 := k1.frozen 0
        have f1 := k1.frozen 1
        have f2 := k1.frozen 2
        go_wp2
        exact rdec_end s w _ _ 0 0 0 8 rfl rfl rfl (rdec_sets k1 _ _ _) (dec_bel B2 _ _ _) hd
    · have hk1 : 1 ≤ a1.toNat := by omega
      have hk3 : a1.toNat ≤ 3 := by omega
      have x3 := HX3.out
      by_cases hM : M = ⟨#[90, 60]⟩
      · have hd : dec s = (a1.toNat, getN N, getN D, 0) := by rw [HD.out, if_neg (by simp [hS]), if_neg hk, if_neg (by simp [hM])]
        have hm : (M.toList == [90, 60]) = true := by rw [toList_data, hM]; decide
        have x4 := HX4.out
        have x5 := HX5.out
        have HD2 := Lib.hid hd
        clear hS hk hM hd HX3 HX4 HX5 HD
        have kR := Blk.new w 31 #[.int .i64 0, .int .u64 0, .int .u64 0]
        have B1 : Below w.heap.size w (w.alloc (.cells #[.int .i64 0, .int .u64 0, .int .u64 0] 31)) := (Below.refl _ w).alloc (Nat.le_refl _) _
        go_enter Try.func22, Try.ntmps22
        go_wp2_with (with_reducible refine (hBl _).mono ?_; rintro e w1 ⟨rfl, rfl⟩)
        generalize w.alloc (.cells #[.int .i64 0, .int .u64 0, .int .u64 0] 31) = W0 at *
        (refine wp_region_calm (W0.heap.size) (by kernel_rfl) (by kernel_rfl) ?_; (repeat (go_big_quiet_step ((first | (with_reducible refine calm_same (hSum _)) | (with_reducible refine calm_of (Nat.le_refl _) (hLow _)))))); refine wpQuiet_nil ?_; intro W1 hw'; obtain ⟨⟨_, hW1⟩, hw''⟩ := hw'; subst hw'')
        have k1 := kR.below hW1 kR.lt
        have B2 := bthen B1 hW1
        clear kR B1 hW1
        go_wp2_with fail
        (refine wp_region_calm (W1.heap.size) (by kernel_rfl) (by kernel_rfl) ?_; (repeat (go_big_quiet_step ((with_reducible refine calm_of (Nat.le_refl _) (rMark_any _))))); refine wpQuiet_nil ?_; intro W2 hw'; obtain ⟨⟨_, hW2⟩, hw''⟩ := hw'; subst hw'')
        have k2 := k1.below hW2 k1.lt
        have B3 := bthen B2 hW2
        clear k1 B2 hW2
        have r0 := k2.cell 0
        have r1 := k2.cell 1
        have r2 := k2.cell 2
        have f0 := k2.frozen 0
        have f1 := k2.frozen 1
        have f2 := k2.frozen 2
        have g0 : (2 : Int) ≤ (s.size : Int) := by omega
        have g1 : (10 : Int) ≤ (s.size : Int) := by omega
        have g2 : (18 : Int) ≤ (s.size : Int) := by omega
        have g3 : IntKind.i64.wrap (a1.toNat : Int) = (a1.toNat : Int) := IntWalk.i64_in _ (by omega)
        go_wp2_with fail
        go_region_held3 (fun _ => True) (trivial) (first | ((with_reducible refine (hN _).mono ?_); rintro e w5 ⟨rfl, rfl⟩) | ((with_reducible refine (hD _).mono ?_); rintro e w6 ⟨rfl, rfl⟩))
        all_goals
          go_wp2
          exact rdec_end s w _ _ a1.toNat (getN N) (getN D) 0 rfl rfl rfl (rdec_sets k2 _ _ _).drew (dec_bel B3 _ _ _).drew HD2.out
      · have hd : dec s = (0, 0, 0, 9) := by rw [HD.out, if_neg (by simp [hS]), if_neg hk, if_pos hM]
        have hm : (M.toList == [90, 60]) = false := by
          rw [toList_data, beq_eq_false_iff_ne]; exact fun e => hM (bytes_list e)
        clear hS hk hM HX3 HX4 HX5 HD
        have kR := Blk.new w 31 #[.int .i64 0, .int .u64 0, .int .u64 0]
        have B1 : Below w.heap.size w (w.alloc (.cells #[.int .i64 0, .int .u64 0, .int .u64 0] 31)) := (Below.refl _ w).alloc (Nat.le_refl _) _
        go_enter Try.func22, Try.ntmps22
        go_wp2_with (with_reducible refine (hBl _).mono ?_; rintro e w1 ⟨rfl, rfl⟩)
        generalize w.alloc (.cells #[.int .i64 0, .int .u64 0, .int .u64 0] 31) = W0 at *
        (refine wp_region_calm (W0.heap.size) (by kernel_rfl) (by kernel_rfl) ?_; (repeat (go_big_quiet_step ((first | (with_reducible refine calm_same (hSum _)) | (with_reducible refine calm_of (Nat.le_refl _) (hLow _)))))); refine wpQuiet_nil ?_; intro W1 hw'; obtain ⟨⟨_, hW1⟩, hw''⟩ := hw'; subst hw'')
        have k1 := kR.below hW1 kR.lt
        have B2 := bthen B1 hW1
        clear kR B1 hW1
        go_wp2_with fail
        (refine wp_region_calm (W1.heap.size) (by kernel_rfl) (by kernel_rfl) ?_; (repeat (go_big_quiet_step ((with_reducible refine calm_of (Nat.le_refl _) (rMark_any _))))); refine wpQuiet_nil ?_; intro W2 hw'; obtain ⟨⟨_, hW2⟩, hw''⟩ := hw'; subst hw'')
        have k2 := k1.below hW2 k1.lt
        have B3 := bthen B2 hW2
        clear k1 B2 hW2
        have r0 := k2.cell 0
        have r1 := k2.cell 1
        have r2 := k2.cell 2
        have f0 := k2.frozen 0
        have f1 := k2.frozen 1
        have f2 := k2.frozen 2
        go_wp2
        exact rdec_end s w _ _ 0 0 0 9 rfl rfl rfl (rdec_sets k2 _ _ _) (dec_bel B3 _ _ _) hd
  · have hc : (Y.toList == L.toList) = false := by
      rw [toList_data, toList_data, beq_eq_false_iff_ne]; exact fun e => hS (ByteArray.ext (Array.ext' e))
    have hd : dec s = (0, 0, 0, 7) := by rw [HD.out, if_pos hS]
    clear hS
    have kR := Blk.new w 31 #[.int .i64 0, .int .u64 0, .int .u64 0]
    have B1 : Below w.heap.size w (w.alloc (.cells #[.int .i64 0, .int .u64 0, .int .u64 0] 31)) := (Below.refl _ w).alloc (Nat.le_refl _) _
    go_enter Try.func22, Try.ntmps22
    go_wp2_with (with_reducible refine (hBl _).mono ?_; rintro e w1 ⟨rfl, rfl⟩)
    generalize w.alloc (.cells #[.int .i64 0, .int .u64 0, .int .u64 0] 31) = W0 at *
    (refine wp_region_calm (W0.heap.size) (by kernel_rfl) (by kernel_rfl) ?_; (repeat (go_big_quiet_step ((first | (with_reducible refine calm_same (hSum _)) | (with_reducible refine calm_of (Nat.le_refl _) (hLow _)))))); refine wpQuiet_nil ?_; intro W1 hw'; obtain ⟨⟨_, hW1⟩, hw''⟩ := hw'; subst hw'')
    have k1 := kR.below hW1 kR.lt
    have B2 := bthen B1 hW1
    clear kR B1 hW1
    have r0 := k1.cell 0
    have r1 := k1.cell 1
    have r2 := k1.cell 2
    have f0 := k1.frozen 0
    have f1 := k1.frozen 1
    have f2 := k1.frozen 2
    go_wp2
    exact rdec_end s w _ _ 0 0 0 7 rfl rfl rfl (rdec_sets k1 _ _ _) (dec_bel B2 _ _ _) hd

theorem rDecode_any (s : ByteArray) (hs : s.size ≤ 100) (w : World) :
    Calls Try.prog 22 #[.string s] w fun e w' => e = .returned (decV s) ∧ Below w.heap.size w w' := by
  by_cases h : s.size = 24
  · by_cases h2 : blankS s = true
    · exact rDecode_out s hs (.inr (.inl ⟨h, h2⟩)) w
    · have h2 : blankS s = false := by simpa using h2
      by_cases h3 : byteAt s 0 = 165
      · exact rDecode_in s h h2 h3 w
      · exact rDecode_out s hs (.inr (.inr ⟨h, h2, h3⟩)) w
  · exact rDecode_out s hs (.inl h) w
end Go.Proofs.Ytopcklbeppiipaa
