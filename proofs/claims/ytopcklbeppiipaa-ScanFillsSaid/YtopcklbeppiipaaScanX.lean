/- The walk of the law ScanWrites: joined. -/
import Derived.Test.YtopcklbeppiipaaScanW
namespace Go.Proofs.Ytopcklbeppiipaa
open Go.RowKit
set_option linter.unusedVariables false
set_option linter.unusedSimpArgs false

set_option maxHeartbeats 1000000 in
theorem writes_law (s : ByteArray) (K : Int) (N D k m : Nat) (h : s.size ≤ 400) (hk2 : 2 ≤ K) (hk3 : K ≤ 3) (hn : N < 18446744073709551616) (hd : D < 18446744073709551616) (hN : placeN s = m + 1) (hk : nextS s = (k : Int)) (hk1 : 1 ≤ k) (hkm : k ≤ m) (hm12 : m ≤ 12) (w : World) :
    Calls Try.prog 5 #[.string s, .agg #[.int .i64 K, .int .u64 (N : Int), .int .u64 (D : Int)]] w fun e w' => e = .returned (.bool true) ∧ Below w.heap.size w w' := by
  have hmx : s.size ≤ maxLen := by unfold maxLen; omega
  have hR := rslots_nat s
  rw [hN, show m + 1 - 1 = m by omega] at hR
  have hNx := Next_any s hmx
  rw [hk] at hNx
  have hkw : (Lit.int .i64 K).wf = true := by simp [Lit.wf, IntKind.min, IntKind.max, IntKind.signed, IntKind.bits]; omega
  have hEn := Encode_any K N D hkw hn hd
  unfold recV at hEn
  have hzE := encB_size K N D
  have SW := swap_mk s (encB K N D) k m hN (by omega) hkm hzE
  have hck := enc_state K N D k hk2 hk3 hn hd hk1
  have hdE := dec_enc K N D (by omega) hk3 hn hd
  have hsz := (placeN_pos (by omega : 0 < placeN s)).1
  rw [hN] at hsz
  have zA : (s.extract 0 (24 * k)).size ≤ 400 := by rw [ByteArray.size_extract]; omega
  have zC : (s.extract (24 * k + 24) s.size).size ≤ 400 := by rw [ByteArray.size_extract]; omega
  have hb1 : (24 * (k : Int)) ≤ (s.size : Int) := by omega
  have hb2 : (24 * (k : Int)) + 24 ≤ (s.size : Int) := by omega
  have g1 : IntKind.i64.wrap (24 * (k : Int)) = 24 * (k : Int) := IntWalk.i64_in _ (by omega)
  have g2 : IntKind.i64.wrap (24 * (k : Int) + 24) = 24 * (k : Int) + 24 := IntWalk.i64_in _ (by omega)
  have q1 : (9223372036854775807 < (s.extract 0 (24 * k)).size + (encB K N D).size) = False := by simp; omega
  have q2 : (9223372036854775807 < (s.extract 0 (24 * k)).size + (encB K N D).size + (s.extract (24 * k + 24) s.size).size) = False := by simp; omega
  generalize hU : s.extract 0 (24 * k) ++ encB K N D ++ s.extract (24 * k + 24) s.size = U at *
  have hux : U.size ≤ maxLen := by rw [SW.size]; exact hmx
  have hL1 := Last_any s hmx
  have hL2 := Last_any U hux
  have hN2 := Next_any U hux
  rw [swap_next SW hk1 hk (by rw [hck]; decide)] at hN2
  have hG1 := Good_any s hmx
  have hG2 := Good_any U hux
  rw [swap_good SW hk1 hk, hck, if_pos rfl, show ((goodS s + 1 : Nat) : Int) = (goodS s : Int) + 1 by omega] at hG2
  have hgl : goodS s ≤ 13 := by
    have := goodN_le s (placeN s - 1)
    unfold goodS; omega
  have hnew : (oE (lastS s) = 0 → oN s (lastS s) ≤ N) → lastV U = .tuple #[.agg #[.int .i64 K, .int .u64 (N : Int), .int .u64 (D : Int)], .int .i64 0] := fun hle => by
    rw [swap_new SW hk1 hk hck (by unfold decN; rw [hdE]; exact hle)]
    unfold decK decN decD
    rw [hdE, show ((K.toNat : Nat) : Int) = K by omega]
  have hEE : oE (lastS s) = 0 ∨ oE (lastS s) = 10 := by cases lastS s <;> simp [oE]
  unfold lastV at hL1
  generalize lastV U = VU at *
  generalize oK s (lastS s) = LK at *
  generalize oN s (lastS s) = LN at *
  generalize oD s (lastS s) = LD at *
  generalize oE (lastS s) = LE at *
  generalize goodS s = G at *
  generalize encB K N D = E at *
  have HU := Lib.hid hU
  have HNEW := Lib.hid hnew
  have h2 : decide (K < 2) = false := by simp; omega
  have h3 : decide (3 < K) = false := by simp; omega
  have d1 : decide ((k : Int) < 1) = false := by simp; omega
  have d1' : decide (k < 1) = false := by simp; omega
  have d2 : decide ((m : Int) < (k : Int)) = false := by simp; omega
  have d2' : decide (m < k) = false := by simp; omega
  have hEz : E.size ≤ 24 := by omega
  have gG : IntKind.i64.wrap ((G : Int) + 1) = (G : Int) + 1 := IntWalk.i64_in _ (by omega)
  clear hk hN SW hck hsz hU hmx hux hnew hdE hzE
  have B0 : Below w.heap.size w (w.alloc (.cells #[.int .i64 K, .int .u64 (N : Int), .int .u64 (D : Int)] 25)) := (Below.refl _ w).alloc (Nat.le_refl _) _
  have k0 := Blk.new w 25 #[.int .i64 K, .int .u64 (N : Int), .int .u64 (D : Int)]
  generalize hW : w.alloc (.cells #[.int .i64 K, .int .u64 (N : Int), .int .u64 (D : Int)] 25) = W0 at *
  have HB0 := Lib.hid B0
  have HK0 := Lib.hid k0
  clear B0 k0
  go_enter Try.func5, Try.ntmps5
  go_wp2_with fail
  clear hW
  refine (hR _).mono ?_
  rintro e w1 ⟨rfl, rfl⟩
  go_wp2_with fail
  refine (hNx _).mono ?_
  rintro e w2 ⟨rfl, b2⟩
  have k2 := Blk.below HK0.out b2 HK0.out.lt
  have r0 := k2.cell 0
  simp at r0
  have HK2 := Lib.hid k2
  have B2 := Lib.hid (bthen HB0.out b2)
  clear b2 k2 HK0 HB0
  go_wp2_with fail
  refine (shown9_any _).mono ?_
  rintro e w3 ⟨rfl, b3⟩
  clear r0
  have k3 := Blk.below HK2.out b3 HK2.out.lt
  have HK3 := Lib.hid k3
  have B3 := Lib.hid (bthen B2.out b3)
  clear b3 k3 HK2 B2
  go_wp2_with fail
  refine (hL1 _).mono ?_
  rintro e w4 ⟨rfl, b4⟩
  have k4 := Blk.below HK3.out b4 HK3.out.lt
  have b5 : Below w4.heap.size w4 (w4.alloc (.cells #[.int .i64 (LK : Int), .int .u64 (LN : Int), .int .u64 (LD : Int)] 25)) := (Below.refl _ w4).alloc (Nat.le_refl _) _
  have q5 := Blk.new w4 25 #[.int .i64 (LK : Int), .int .u64 (LN : Int), .int .u64 (LD : Int)]
  generalize hW5 : w4.alloc (.cells #[.int .i64 (LK : Int), .int .u64 (LN : Int), .int .u64 (LD : Int)] 25) = W5 at *
  have k5 := k4.below b5 k4.lt
  have r0 := k5.cell 0
  have r1 := k5.cell 1
  have r2 := k5.cell 2
  have t1 := q5.cell 1
  simp at r0 r1 r2 t1
  have HK5 := Lib.hid k5
  have B5 := Lib.hid (bthen (bthen B3.out b4) b5)
  clear b4 b5 q5 k4 k5 HK3 B3
  by_cases hA : LE = 0 ∧ N < LN
  · obtain ⟨rfl, hlt⟩ := hA
    have e1 : decide ((N : Int) < (LN : Int)) = true := by simp; omega
    have e1' : decide (N < LN) = true := by simp; omega
    go_wp2
    go_ret
    exact ⟨rfl, B5.out⟩
  · have hV := HNEW.out (fun h0 => by omega)
    subst hV
    clear HNEW
    have hcond : (LE = 0 ∧ ¬ N < LN) ∨ LE = 10 := by omega
    clear hA hEE
    have c0 : ∀ n : CalmW W5.heap.size W5, n.val.cell? ⟨w.heap.size, 0, none⟩ = some (.int .i64 K) := fun n => (HK5.out.below n.below HK5.out.lt).cell 0
    have c1 : ∀ n : CalmW W5.heap.size W5, n.val.cell? ⟨w.heap.size, 1, none⟩ = some (.int .u64 (N : Int)) := fun n => (HK5.out.below n.below HK5.out.lt).cell 1
    have c2 : ∀ n : CalmW W5.heap.size W5, n.val.cell? ⟨w.heap.size, 2, none⟩ = some (.int .u64 (D : Int)) := fun n => (HK5.out.below n.below HK5.out.lt).cell 2
    rcases hcond with ⟨rfl, hnl⟩ | rfl
    · have e1 : decide ((N : Int) < (LN : Int)) = false := by simp; omega
      have e1' : decide (N < LN) = false := by simp; omega
      clear hnl
      go_wp2_with fail
      clear hW5 r0 r1 r2 t1 e1 e1' hNx hR hL1
      refine wp_region_calm (W5.heap.size) (by kernel_rfl) (by kernel_rfl) ?_
      repeat (go_big_quiet_step (with_reducible refine calm_of (Nat.le_refl _) (hEn _)))
      refine wpQuiet_nil ?_
      intro _ hw'
      obtain ⟨⟨W6, hW6⟩, hw''⟩ := hw'
      subst hw''
      have k6 := Blk.below HK5.out hW6 HK5.out.lt
      have B6 := Lib.hid (bthen B5.out hW6)
      clear hW6 HK5 B5 c0 c1 c2
      go_wp2_with fail
      rw [HU.out]
      refine (hL2 _).mono ?_
      rintro e w7 ⟨rfl, b7⟩
      have k7 := k6.below b7 k6.lt
      have b8 : Below w7.heap.size w7 (w7.alloc (.cells #[.int .i64 K, .int .u64 (N : Int), .int .u64 (D : Int)] 25)) := (Below.refl _ w7).alloc (Nat.le_refl _) _
      have q8 := Blk.new w7 25 #[.int .i64 K, .int .u64 (N : Int), .int .u64 (D : Int)]
      generalize hW8 : w7.alloc (.cells #[.int .i64 K, .int .u64 (N : Int), .int .u64 (D : Int)] 25) = W8 at *
      have k8 := k7.below b8 k7.lt
      have B8 := Lib.hid (bthen (bthen B6.out b7) b8)
      have r0 := k8.cell 0
      have r1 := k8.cell 1
      have r2 := k8.cell 2
      have t0 := q8.cell 0
      have t1 := q8.cell 1
      have t2 := q8.cell 2
      simp at r0 r1 r2 t0 t1 t2
      clear b7 b8 k6 k7 k8 q8 B6
      by_cases hkm2 : k = m
      · subst hkm2
        rw [if_pos rfl] at hN2
        go_wp2_with fail
        refine (hN2 _).mono ?_
        rintro e w11 ⟨rfl, b11⟩
        go_wp2_with fail
        refine (hG2 _).mono ?_
        rintro e w12 ⟨rfl, b12⟩
        go_wp2_with fail
        refine (hG1 _).mono ?_
        rintro e w13 ⟨rfl, b13⟩
        go_wp2
        go_ret
        exact ⟨rfl, bthen (bthen (bthen B8.out b11) b12) b13⟩
      · rw [if_neg hkm2] at hN2
        have ek : ((k : Int) == (m : Int)) = false := by simp; omega
        have ek' : (k == m) = false := by simp; omega
        clear hkm2
        go_wp2_with fail
        refine (hN2 _).mono ?_
        rintro e w11 ⟨rfl, b11⟩
        go_wp2_with fail
        refine (hG2 _).mono ?_
        rintro e w12 ⟨rfl, b12⟩
        go_wp2_with fail
        refine (hG1 _).mono ?_
        rintro e w13 ⟨rfl, b13⟩
        go_wp2
        go_ret
        exact ⟨rfl, bthen (bthen (bthen B8.out b11) b12) b13⟩
    · go_wp2_with fail
      clear hW5 r0 r1 r2 t1 hNx hR hL1
      refine wp_region_calm (W5.heap.size) (by kernel_rfl) (by kernel_rfl) ?_
      repeat (go_big_quiet_step (with_reducible refine calm_of (Nat.le_refl _) (hEn _)))
      refine wpQuiet_nil ?_
      intro _ hw'
      obtain ⟨⟨W6, hW6⟩, hw''⟩ := hw'
      subst hw''
      have k6 := Blk.below HK5.out hW6 HK5.out.lt
      have B6 := Lib.hid (bthen B5.out hW6)
      clear hW6 HK5 B5 c0 c1 c2
      go_wp2_with fail
      rw [HU.out]
      refine (hL2 _).mono ?_
      rintro e w7 ⟨rfl, b7⟩
      have k7 := k6.below b7 k6.lt
      have b8 : Below w7.heap.size w7 (w7.alloc (.cells #[.int .i64 K, .int .u64 (N : Int), .int .u64 (D : Int)] 25)) := (Below.refl _ w7).alloc (Nat.le_refl _) _
      have q8 := Blk.new w7 25 #[.int .i64 K, .int .u64 (N : Int), .int .u64 (D : Int)]
      generalize hW8 : w7.alloc (.cells #[.int .i64 K, .int .u64 (N : Int), .int .u64 (D : Int)] 25) = W8 at *
      have k8 := k7.below b8 k7.lt
      have B8 := Lib.hid (bthen (bthen B6.out b7) b8)
      have r0 := k8.cell 0
      have r1 := k8.cell 1
      have r2 := k8.cell 2
      have t0 := q8.cell 0
      have t1 := q8.cell 1
      have t2 := q8.cell 2
      simp at r0 r1 r2 t0 t1 t2
      clear b7 b8 k6 k7 k8 q8 B6
      by_cases hkm2 : k = m
      · subst hkm2
        rw [if_pos rfl] at hN2
        go_wp2_with fail
        refine (hN2 _).mono ?_
        rintro e w11 ⟨rfl, b11⟩
        go_wp2_with fail
        refine (hG2 _).mono ?_
        rintro e w12 ⟨rfl, b12⟩
        go_wp2_with fail
        refine (hG1 _).mono ?_
        rintro e w13 ⟨rfl, b13⟩
        go_wp2
        go_ret
        exact ⟨rfl, bthen (bthen (bthen B8.out b11) b12) b13⟩
      · rw [if_neg hkm2] at hN2
        have ek : ((k : Int) == (m : Int)) = false := by simp; omega
        have ek' : (k == m) = false := by simp; omega
        clear hkm2
        go_wp2_with fail
        refine (hN2 _).mono ?_
        rintro e w11 ⟨rfl, b11⟩
        go_wp2_with fail
        refine (hG2 _).mono ?_
        rintro e w12 ⟨rfl, b12⟩
        go_wp2_with fail
        refine (hG1 _).mono ?_
        rintro e w13 ⟨rfl, b13⟩
        go_wp2
        go_ret
        exact ⟨rfl, bthen (bthen (bthen B8.out b11) b12) b13⟩
end Go.Proofs.Ytopcklbeppiipaa
