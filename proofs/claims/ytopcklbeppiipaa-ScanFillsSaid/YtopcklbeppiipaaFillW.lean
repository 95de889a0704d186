/- The walk of the law ScanFills. -/
import Derived.Test.YtopcklbeppiipaaFillM
import Derived.Test.YtopcklbeppiipaaScanX
namespace Go.Proofs.Ytopcklbeppiipaa
open Go.RowKit
set_option linter.unusedVariables false
set_option linter.unusedSimpArgs false

set_option maxHeartbeats 1000000 in
theorem fills_law (k n0 B o len cap : Nat) (z : Nat → Nat) (h1 : 1 ≤ k) (h12 : k ≤ 12) (hn : 1 + (n0 : Int) % 12 = (k : Int)) (hn256 : n0 < 256) (hlen : k ≤ len) (hlc : len ≤ maxLen) (w : World) (hB : B < w.heap.size)
    (hz : ∀ j : Nat, j < k → z j < 18446744073709551616 ∧ w.cell? ⟨B, o + j, none⟩ = some (.int .u64 (z j : Int))) :
    Calls Try.prog 7 #[.int .u8 (n0 : Int), .slice (some ⟨B, o, none⟩) len cap] w fun e w' => e = .returned (.bool true) ∧ Below w.heap.size w w' := by
  have hF0 := Fill.start k h1 h12
  have hE0 : ∀ W, Calls Try.prog 15 #[.agg #[.int .i64 1, .int .u64 1, .int .u64 0]] W fun e w' => e = .returned (.string (encB 1 1 0)) ∧ Below W.heap.size W w' := Encode_any 1 1 0 (by decide) (by decide) (by decide)
  have hBl : ∀ W, Calls Try.prog 17 #[.int .i64 (24 * (k : Int))] W fun e w' => e = .returned (.string (fullB (24 * k))) ∧ W = w' := fun W => by
    have := sblank_any (24 * k) (by omega) W
    rw [show ((24 * k : Nat) : Int) = 24 * (k : Int) by omega] at this
    exact this
  have z1 : (encB 1 1 0).size ≤ 24 := by rw [encB_size]; omega
  have z2 : (fullB (24 * k)).size ≤ 400 := by rw [fullB_size]; omega
  have hs0 : (encB 1 1 0 ++ fullB (24 * k)).size = 24 * k + 24 := by rw [ByteArray.size_append, encB_size, fullB_size]; omega
  generalize encB 1 1 0 = X1 at *
  generalize fullB (24 * k) = X2 at *
  have HF0 := Lib.hid hF0
  have HS0 := Lib.hid hs0
  have HZ := Lib.hid hz
  unfold maxLen at hlc
  have dl : decide ((len : Int) < (k : Int)) = false := by simp; omega
  have dl' : decide (len < k) = false := by simp; omega
  clear hF0 hs0 hz
  go_enter Try.func7, Try.ntmps7
  go_wp2_with fail
  refine (shown9_any _).mono ?_
  rintro e w1 ⟨rfl, b1⟩
  go_wp2_with fail
  refine (hE0 _).mono ?_
  rintro e w2 ⟨rfl, b2⟩
  go_wp2_with fail
  refine (hBl _).mono ?_
  rintro e w3 ⟨rfl, rfl⟩
  have HB2 := Lib.hid (bthen b1 b2)
  clear b1 b2
  go_wp2_with fail
  go_loopw [6, 7] (fun sv iv wr => ∃ (s : ByteArray) (i : Nat), sv = .string s ∧ iv = .int .i64 (i : Int) ∧ 1 ≤ i ∧ i ≤ k + 1 ∧ Fill s k i ∧ s.size = 24 * k + 24 ∧ Below w.heap.size w wr) (fun _ iv _ => k + 1 - (intOf iv).toNat)
  case atStart => exact ⟨_, 1, rfl, rfl, by omega, by omega, HF0.out, HS0.out, HB2.out⟩
  case round =>
    obtain ⟨s, i, rfl, rfl, hi1, hik, hF, hss, Br⟩ := hrel
    have hmx : s.size ≤ maxLen := by unfold maxLen; omega
    have hNx := Next_any s hmx
    rw [hF.next] at hNx
    have hGd := Good_any s hmx
    rw [hF.good] at hGd
    have BR := Lib.hid Br
    have HSS := Lib.hid hss
    by_cases hlt : i ≤ k
    · rw [if_pos hlt] at hNx
      obtain ⟨q, hq⟩ : ∃ q : Nat, (i : Int) - 1 = (q : Int) := ⟨i - 1, by omega⟩
      rw [show ((i - 1 : Nat) : Int) = (q : Int) by omega] at hGd
      obtain ⟨hzq, hc⟩ := HZ.out q (by omega)
      have cq := (Br.cell (p := ⟨B, o + q, none⟩) hB).trans hc
      have hEn : ∀ W, Calls Try.prog 15 #[.agg #[.int .i64 2, .int .u64 (i : Int), .int .u64 (z q : Int)]] W fun e w' => e = .returned (.string (encB 2 i (z q))) ∧ Below W.heap.size W w' := Encode_any 2 i (z q) (by decide) (by omega) hzq
      have hdE := dec_enc 2 i (z q) (by omega) (by omega) (by omega) hzq
      obtain ⟨st1, st2, st3⟩ := hF.step (encB 2 i (z q)) hi1 hlt (encB_size 2 i (z q)) (enc_state 2 i (z q) i (by omega) (by omega) (by omega) hzq hi1) (by unfold decN; rw [hdE])
      have hEz : (encB 2 i (z q)).size ≤ 24 := by rw [encB_size]; omega
      have zA : (s.extract 0 (24 * i)).size ≤ 400 := by rw [ByteArray.size_extract]; omega
      have zC : (s.extract (24 * i + 24) s.size).size ≤ 400 := by rw [ByteArray.size_extract]; omega
      have hb1 : (24 * (i : Int)) ≤ (s.size : Int) := by omega
      have hb2 : (24 * (i : Int)) + 24 ≤ (s.size : Int) := by omega
      have g1 : IntKind.i64.wrap (24 * (i : Int)) = 24 * (i : Int) := IntWalk.i64_in _ (by omega)
      have g2 : IntKind.i64.wrap (24 * (i : Int) + 24) = 24 * (i : Int) + 24 := IntWalk.i64_in _ (by omega)
      have q1 : (9223372036854775807 < (s.extract 0 (24 * i)).size + (encB 2 i (z q)).size) = False := by simp; omega
      have q2 : (9223372036854775807 < (s.extract 0 (24 * i)).size + (encB 2 i (z q)).size + (s.extract (24 * i + 24) s.size).size) = False := by simp; omega
      generalize hU : s.extract 0 (24 * i) ++ encB 2 i (z q) ++ s.extract (24 * i + 24) s.size = U at *
      have hux : U.size ≤ maxLen := by rw [st2]; exact hmx
      have hL2 := Last_any U hux
      rw [st3] at hL2
      unfold decK decN decD at hL2
      rw [hdE] at hL2
      replace hL2 : ∀ W, Calls Try.prog 9 #[.string U] W fun e w' => e = .returned (.tuple #[.agg #[.int .i64 2, .int .u64 (i : Int), .int .u64 (z q : Int)], .int .i64 0]) ∧ Below W.heap.size W w' := hL2
      have hSd := Sound_any U hux
      rw [Fill.sound st1 hi1] at hSd
      generalize encB 2 i (z q) = E at *
      have HU := Lib.hid hU
      have HST := Lib.hid (And.intro st1 (st2.trans hss))
      have e1 : ((s.size : Int) != 24 * (k : Int) + 24) = false := by simp; omega
      have hql : q < len := by omega
      have gw : IntKind.u64.wrap (i : Int) = (i : Int) := IntWalk.u64_in _ (by omega)
      have dle : decide ((i : Int) ≤ (k : Int)) = true := by simp; omega
      have hs4 : s.size ≤ 400 := by omega
      have hz64 := hzq
      clear Br hc hss hF st1 st2 st3 hU hux hdE hmx
      go_wp2_with fail
      refine (hNx _).mono ?_
      rintro e w4 ⟨rfl, b4⟩
      have cq4 := cells_down b4 cq
      go_wp2_with fail
      refine (hGd _).mono ?_
      rintro e w5 ⟨rfl, b5⟩
      have cq5 := cells_down b5 cq4
      have b6 : Below w5.heap.size w5 (w5.alloc (.cells #[.int .i64 2, .int .u64 (i : Int), .int .u64 (z q : Int)] 25)) := (Below.refl _ w5).alloc (Nat.le_refl _) _
      have q6 := Blk.new w5 25 #[.int .i64 2, .int .u64 (i : Int), .int .u64 (z q : Int)]
      generalize hW6 : w5.alloc (.cells #[.int .i64 2, .int .u64 (i : Int), .int .u64 (z q : Int)] 25) = W6 at *
      have B6 := Lib.hid (bthen (bthen (bthen BR.out b4) b5) b6)
      have Q6 := Lib.hid q6
      clear b4 b5 b6 q6 cq cq4 BR
      go_wp2_with fail
      clear hW6 cq5
      have c0 : ∀ n : CalmW W6.heap.size W6, n.val.cell? ⟨w5.heap.size, 0, none⟩ = some (.int .i64 2) := fun n => (Q6.out.below n.below Q6.out.lt).cell 0
      have c1 : ∀ n : CalmW W6.heap.size W6, n.val.cell? ⟨w5.heap.size, 1, none⟩ = some (.int .u64 (i : Int)) := fun n => (Q6.out.below n.below Q6.out.lt).cell 1
      have c2 : ∀ n : CalmW W6.heap.size W6, n.val.cell? ⟨w5.heap.size, 2, none⟩ = some (.int .u64 (z q : Int)) := fun n => (Q6.out.below n.below Q6.out.lt).cell 2
      refine wp_region_calm (W6.heap.size) (by kernel_rfl) (by kernel_rfl) ?_
      repeat (go_big_quiet_step (with_reducible refine calm_of (Nat.le_refl _) (hEn _)))
      refine wpQuiet_nil ?_
      intro _ hw'
      obtain ⟨⟨W7, hW7⟩, hw''⟩ := hw'
      subst hw''
      have k7 := Blk.below Q6.out hW7 Q6.out.lt
      have B7 := Lib.hid (bthen B6.out hW7)
      clear hW7 Q6 B6 c0 c1 c2
      go_wp2_with fail
      rw [HU.out]
      refine (hL2 _).mono ?_
      rintro e w8 ⟨rfl, b8⟩
      have k8 := k7.below b8 k7.lt
      have b9 : Below w8.heap.size w8 (w8.alloc (.cells #[.int .i64 2, .int .u64 (i : Int), .int .u64 (z q : Int)] 25)) := (Below.refl _ w8).alloc (Nat.le_refl _) _
      have q9 := Blk.new w8 25 #[.int .i64 2, .int .u64 (i : Int), .int .u64 (z q : Int)]
      generalize hW9 : w8.alloc (.cells #[.int .i64 2, .int .u64 (i : Int), .int .u64 (z q : Int)] 25) = W9 at *
      have k9 := k8.below b9 k8.lt
      have B9 := Lib.hid (bthen (bthen B7.out b8) b9)
      have r0 := k9.cell 0
      have r1 := k9.cell 1
      have r2 := k9.cell 2
      have t0 := q9.cell 0
      have t1 := q9.cell 1
      have t2 := q9.cell 2
      simp at r0 r1 r2 t0 t1 t2
      clear b8 b9 k7 k8 k9 q9 B7
      go_wp2_with fail
      refine (hSd _).mono ?_
      rintro e w10 ⟨rfl, b10⟩
      clear r0 r1 r2 t0 t1 t2 hW9
      go_wp2_with fail
      go_roundw
      case rel => exact ⟨_, i + 1, rfl, by go_num, by omega, by omega, HST.out.1, HST.out.2, bthen B9.out b10⟩
      case measure => simp [intOf]; omega
    · obtain rfl : i = k + 1 := by omega
      rw [if_neg (by omega)] at hNx
      rw [show k + 1 - 1 = k by omega] at hGd
      have dle : decide (((k + 1 : Nat) : Int) ≤ (k : Int)) = false := by simp; omega
      clear hF hss Br
      go_wp2_with fail
      refine (hNx _).mono ?_
      rintro e w4 ⟨rfl, b4⟩
      go_wp2_with fail
      refine (hGd _).mono ?_
      rintro e w5 ⟨rfl, b5⟩
      go_wp2
      go_ret
      exact ⟨rfl, bthen (bthen BR.out b4) b5⟩
end Go.Proofs.Ytopcklbeppiipaa
