/- The walk of the law BankWrites. -/
import Derived.Test.YtbaahogdgldcpaaBankN
import Derived.Deep.RegionHeld3
namespace Go.Proofs.Ytbaahogdgldcpaa
open Go.RowKit
set_option linter.unusedVariables false
set_option linter.unusedSimpArgs false

theorem cells_down {W W' : World} {p : Addr} {x : Value} (hb : Below W.heap.size W W') (h : W.cell? p = some x) : W'.cell? p = some x :=
  (hb.cell (p := p) (World.block_lt_of_cell? W p h)).trans h
theorem full_app (a b : Nat) : fullB (a + b) = fullB a ++ fullB b := by
  apply ByteArray.ext
  apply Array.ext'
  rw [ByteArray.data_append]
  unfold fullB
  simp [List.replicate_append_replicate]
theorem made_states {X T : ByteArray} {i K : Nat} (M : Made X (fullB (24 * i)) T (fullB (24 * (K - i))) i K) (hi : 1 ≤ i) (c : Int) (hc : stateP (i : Int) T = c) :
    (statesL X).length = K ∧ (statesL X)[i - 1]? = some c ∧ ∀ j : Nat, j < K → j ≠ i - 1 → (statesL X)[j]? = some 0 := by
  have hp := M.placeN
  have hl := statesL_length X
  refine ⟨by omega, ?_, fun j hj hne => ?_⟩
  · have hiK := M.hi
    rw [statesL_get _ _ (by omega), show (((i - 1 : Nat) : Int) + 1) = (i : Int) by omega]
    unfold stateS
    rw [slotS_nat _ _ (by omega), M.at, hc]
  · rw [statesL_get _ _ (by omega), show ((j : Int) + 1) = ((j + 1 : Nat) : Int) by omega]
    unfold stateS
    rw [slotS_nat _ _ (by omega)]
    rcases Nat.lt_or_gt_of_ne (show j + 1 ≠ i by omega) with h | h
    · rw [M.ahead _ h, full_ext _ _ _ (by omega), show 24 * (j + 1) + 24 - 24 * (j + 1) = 24 by omega, stateP_full]
    · rw [M.behind _ h, full_ext _ _ _ (by omega), show 24 * (j + 1 - i - 1) + 24 - 24 * (j + 1 - i - 1) = 24 by omega, stateP_full]

theorem writes_facts (k : Int) (n d i K : Nat) (h2 : 2 ≤ k) (h3 : k ≤ 3) (hn : n < 18446744073709551616) (hd : d < 18446744073709551616) (hi : 1 ≤ i) (hiK : i ≤ K) (hK : K ≤ 12) :
    ((statesL (fullB (24 * i) ++ encB k n d ++ fullB (24 * (K - i)))).length = K ∧ (statesL (fullB (24 * i) ++ encB k n d ++ fullB (24 * (K - i))))[i - 1]? = some 2 ∧ ∀ j : Nat, j < K → j ≠ i - 1 → (statesL (fullB (24 * i) ++ encB k n d ++ fullB (24 * (K - i))))[j]? = some 0) ∧
    ((statesL (fullB (24 * i) ++ bodyB k n d ++ fullB (2 + 24 * (K - i)))).length = K ∧ (statesL (fullB (24 * i) ++ bodyB k n d ++ fullB (2 + 24 * (K - i))))[i - 1]? = some 1 ∧ ∀ j : Nat, j < K → j ≠ i - 1 → (statesL (fullB (24 * i) ++ bodyB k n d ++ fullB (2 + 24 * (K - i))))[j]? = some 0) := by
  refine ⟨made_states ⟨rfl, fullB_size _, encB_size k n d, fullB_size _, hiK, by omega, hK⟩ hi 2 ?_, made_states (T := bodyB k n d ++ fullB 2) ⟨?_, fullB_size _, ?_, fullB_size _, hiK, by omega, hK⟩ hi 1 ?_⟩
  · unfold stateP decE decK
    rw [dec_enc k n d (by omega) h3 hn hd]
    have : ¬ ((k.toNat : Int) = 1) := by omega
    simp [this]
    omega
  · rw [full_app]; simp only [ByteArray.append_assoc]
  · rw [ByteArray.size_append, bodyB_size, fullB_size]
  · have e9 : decE (bodyB k n d ++ fullB 2) = 9 := by
      unfold decE
      rw [dec_body k n d _ (fullB_size 2) (by omega) h3 hn hd, if_neg (show ¬ fullB 2 = ⟨#[90, 60]⟩ by decide +kernel)]
    unfold stateP
    rw [e9, if_neg (by decide), if_pos (.inl (by decide))]

theorem writes_out (k n d a b : Int) (h : k < 2 ∨ 3 < k) (ha : 0 ≤ a ∧ a < 256) (hb : 0 ≤ b ∧ b < 256) (w : World) :
    Calls Try.prog 6 #[.agg #[.int .i64 k, .int .u64 n, .int .u64 d], .int .u8 a, .int .u8 b] w fun e w' => e = .returned (.bool true) ∧ Below w.heap.size w w' := by
  have ht : 0 ≤ a.tmod 12 ∧ a.tmod 12 < 12 := by rw [Int.tmod_eq_emod_of_nonneg (by omega)]; omega
  have hne : (1 + a.tmod 12 == 0) = false := by simp; omega
  have B0 : Below w.heap.size w (w.alloc (.cells #[.int .i64 k, .int .u64 n, .int .u64 d] 37)) := (Below.refl _ w).alloc (Nat.le_refl _) _
  have k0 := Blk.new w 37 #[.int .i64 k, .int .u64 n, .int .u64 d]
  generalize hW : w.alloc (.cells #[.int .i64 k, .int .u64 n, .int .u64 d] 37) = W0 at *
  have k00 := k0.cell 0
  simp at k00
  have HK0 := Lib.hid k0
  clear k0
  have HB0 := Lib.hid B0
  clear B0
  rcases h with h | h
  · go_enter Try.func6, Try.ntmps6
    go_wp2_with (with_reducible refine (shown_any _).mono ?_)
    rintro e1 w2 ⟨rfl, b2⟩
    go_wp2
    go_ret
    exact ⟨rfl, bthen HB0.out b2⟩
  · have h2 : decide (k < 2) = false := by simp; omega
    go_enter Try.func6, Try.ntmps6
    go_wp2_with (with_reducible refine (shown_any _).mono ?_)
    rintro e1 w2 ⟨rfl, b2⟩
    go_wp2
    go_ret
    exact ⟨rfl, bthen HB0.out b2⟩

set_option maxHeartbeats 4000000 in
theorem writes_law (k : Int) (n d a b i0 e K : Nat) (h2 : 2 ≤ k) (h3 : k ≤ 3) (hn : n < 18446744073709551616) (hd : d < 18446744073709551616) (ha : a < 256) (hb : b < 256)
    (hK : 1 + (a : Int) % 12 = (K : Int)) (hi : (b : Int) % (K : Int) = (i0 : Int)) (he : (K : Int) - (1 + (i0 : Int)) = (e : Int)) (hK12 : (K : Int) ≤ 12) (hK1 : 1 ≤ (K : Int)) (w : World) :
    Calls Try.prog 6 #[.agg #[.int .i64 k, .int .u64 (n : Int), .int .u64 (d : Int)], .int .u8 (a : Int), .int .u8 (b : Int)] w fun e w' => e = .returned (.bool true) ∧ Below w.heap.size w w' := by
  obtain ⟨f1, f2⟩ := writes_facts k n d (i0 + 1) K h2 h3 hn hd (by omega) (by omega) (by omega)
  have hkw : (Lit.int .i64 k).wf = true := by simp [Lit.wf, IntKind.min, IntKind.max, IntKind.signed, IntKind.bits]; omega
  have c1 : ∀ w, Calls Try.prog 8 #[.int .i64 (24 * (1 + (i0 : Int)))] w fun e w' => e = .returned (.string (fullB (24 * (i0 + 1)))) ∧ w = w' := fun w => by
    have := lblank_any (24 * (i0 + 1)) (by omega) w
    rw [show ((24 * (i0 + 1) : Nat) : Int) = 24 * (1 + (i0 : Int)) by omega] at this
    exact this
  have c2 : ∀ w, Calls Try.prog 8 #[.int .i64 (24 * (e : Int))] w fun e' w' => e' = .returned (.string (fullB (24 * (K - (i0 + 1))))) ∧ w = w' := fun w => by
    have := lblank_any (24 * (K - (i0 + 1))) (by omega) w
    rw [show ((24 * (K - (i0 + 1)) : Nat) : Int) = 24 * (e : Int) by omega] at this
    exact this
  have c3 : ∀ w, Calls Try.prog 8 #[.int .i64 (2 + 24 * (e : Int))] w fun e' w' => e' = .returned (.string (fullB (2 + 24 * (K - (i0 + 1))))) ∧ w = w' := fun w => by
    have := lblank_any (2 + 24 * (K - (i0 + 1))) (by omega) w
    rw [show ((2 + 24 * (K - (i0 + 1)) : Nat) : Int) = 2 + 24 * (e : Int) by omega] at this
    exact this
  have c4 := Encode_any k n d hkw hn hd
  have c5 := Body_any k n d hkw hn hd
  unfold recV at c4 c5
  have z1 := fullB_size (24 * (i0 + 1))
  have z2 := encB_size k n d
  have z3 := bodyB_size k n d
  have z4 := fullB_size (24 * (K - (i0 + 1)))
  have z5 := fullB_size (2 + 24 * (K - (i0 + 1)))
  have c6 := States_any (fullB (24 * (i0 + 1)) ++ encB k n d ++ fullB (24 * (K - (i0 + 1)))) (by rw [ByteArray.size_append, ByteArray.size_append, z1, z2, z4]; unfold maxLen; omega)
  have c7 := States_any (fullB (24 * (i0 + 1)) ++ bodyB k n d ++ fullB (2 + 24 * (K - (i0 + 1)))) (by rw [ByteArray.size_append, ByteArray.size_append, z1, z3, z5]; unfold maxLen; omega)
  unfold StatesPost at c6 c7
  replace z1 : (fullB (24 * (i0 + 1))).size ≤ 400 := by omega
  replace z2 : (encB k n d).size ≤ 400 := by omega
  replace z3 : (bodyB k n d).size ≤ 400 := by omega
  replace z4 : (fullB (24 * (K - (i0 + 1)))).size ≤ 400 := by omega
  replace z5 : (fullB (2 + 24 * (K - (i0 + 1)))).size ≤ 400 := by omega
  have HF1 := Lib.hid f1
  have HF2 := Lib.hid f2
  clear f1 f2
  generalize statesL (fullB (24 * (i0 + 1)) ++ encB k n d ++ fullB (24 * (K - (i0 + 1)))) = L1 at *
  generalize statesL (fullB (24 * (i0 + 1)) ++ bodyB k n d ++ fullB (2 + 24 * (K - (i0 + 1)))) = L2 at *
  generalize fullB (24 * (i0 + 1)) = X1 at *
  generalize fullB (24 * (K - (i0 + 1))) = X2 at *
  generalize fullB (2 + 24 * (K - (i0 + 1))) = X3 at *
  generalize encB k n d = X4 at *
  generalize bodyB k n d = X5 at *
  have q1 : (9223372036854775807 < X1.size + X4.size) = False := by simp; omega
  have q2 : (9223372036854775807 < X1.size + X4.size + X2.size) = False := by simp; omega
  have q3 : (9223372036854775807 < X1.size + X5.size) = False := by simp; omega
  have q4 : (9223372036854775807 < X1.size + X5.size + X3.size) = False := by simp; omega
  have h3' : decide (3 < k) = false := by simp; omega
  have h2' : decide (k < 2) = false := by simp; omega
  have hne : ((K : Int) == 0) = false := by simp; omega
  have B0 : Below w.heap.size w (w.alloc (.cells #[.int .i64 k, .int .u64 (n : Int), .int .u64 (d : Int)] 37)) := (Below.refl _ w).alloc (Nat.le_refl _) _
  have k0 := Blk.new w 37 #[.int .i64 k, .int .u64 (n : Int), .int .u64 (d : Int)]
  generalize hW : w.alloc (.cells #[.int .i64 k, .int .u64 (n : Int), .int .u64 (d : Int)] 37) = W0 at *
  have k00 := k0.cell 0
  simp at k00
  have HB0 := Lib.hid B0
  clear B0
  go_enter Try.func6, Try.ntmps6
  go_wp2_with (with_reducible refine (shown_any _).mono ?_)
  rintro e1 w2 ⟨rfl, b2⟩
  have k2 := k0.below b2 k0.lt
  have B2 := bthen HB0.out b2
  clear k0 k00 hW b2
  have r0 := k2.cell 0
  have r1 := k2.cell 1
  have r2 := k2.cell 2
  simp at r0 r1 r2
  have HB2 := Lib.hid B2
  have HK2 := Lib.hid k2
  clear B2 k2
  have g1 : IntKind.i64.wrap (24 * (1 + (i0 : Int))) = 24 * (1 + (i0 : Int)) := IntWalk.i64_in _ (by omega)
  have g2 : IntKind.i64.wrap (e : Int) = (e : Int) := IntWalk.i64_in _ (by omega)
  have g3 : IntKind.i64.wrap (24 * (e : Int)) = 24 * (e : Int) := IntWalk.i64_in _ (by omega)
  have g4 : IntKind.i64.wrap (2 + 24 * (e : Int)) = 2 + 24 * (e : Int) := IntWalk.i64_in _ (by omega)
  go_wp2_with fail
  go_region_held3 (fun w' => w'.cell? ⟨w.heap.size, 0, none⟩ = some (.int .i64 k) ∧ w'.cell? ⟨w.heap.size, 1, none⟩ = some (.int .u64 (n : Int)) ∧ w'.cell? ⟨w.heap.size, 2, none⟩ = some (.int .u64 (d : Int)))
    (first | go_keep | (go_split_ands; refine ⟨?_, ?_, ?_⟩ <;> (refine cells_down (by assumption) ?_; simp [*])))
    (first | ((with_reducible refine (c1 _).mono ?_); rintro e1 w3 ⟨rfl, rfl⟩) | ((with_reducible refine (c2 _).mono ?_); rintro e1 w3 ⟨rfl, rfl⟩) | ((with_reducible refine (c4 _).mono ?_); rintro e1 w4 ⟨rfl, b4⟩) | ((with_reducible refine (c6 _).mono ?_); rintro e1 w5 ⟨v, rfl, own5, b5⟩))
  rename_i hHeld
  replace b4 : Below w2.heap.size w2 w4 := ⟨b4.os, b4.tape, b4.output, b4.size, b4.block⟩
  have B5 := bthen (bthen HB2.out b4) b5
  have hl1 := HF1.out.1
  obtain ⟨g, cap, rfl, hg, hgl, hcells⟩ := own5.form (by omega)
  have HB5 := Lib.hid B5
  have HC := Lib.hid hcells
  have HG := Lib.hid hgl
  simp only [hl1]
  have t0 := hHeld.1
  have t1 := hHeld.2.1
  have t2 := hHeld.2.2
  clear hHeld r0 r1 r2 HK2 HB2 b4 b5 own5 B5 hcells hgl hg hl1
  go_wp2_with fail
  go_region_held3 (fun w' => w'.cell? ⟨w.heap.size, 0, none⟩ = some (.int .i64 k) ∧ w'.cell? ⟨w.heap.size, 1, none⟩ = some (.int .u64 (n : Int)) ∧ w'.cell? ⟨w.heap.size, 2, none⟩ = some (.int .u64 (d : Int)))
    (first | go_keep | (go_split_ands; refine ⟨?_, ?_, ?_⟩ <;> (refine cells_down (by assumption) ?_; simp [*])))
    (first | ((with_reducible refine (c1 _).mono ?_); rintro e1 w3 ⟨rfl, rfl⟩) | ((with_reducible refine (c3 _).mono ?_); rintro e1 w3 ⟨rfl, rfl⟩) | ((with_reducible refine (c5 _).mono ?_); rintro e1 w6 ⟨rfl, b6⟩) | ((with_reducible refine (c7 _).mono ?_); rintro e1 w7 ⟨v, rfl, own7, b7⟩))
  replace b6 : Below w5.heap.size w5 w6 := ⟨b6.os, b6.tape, b6.output, b6.size, b6.block⟩
  have b57 := b6.trans (b7.mono b6.size)
  have B7 := bthen HB5.out b57
  have hl2 := HF2.out.1
  obtain ⟨g', cap', rfl, hg', hgl', hcells'⟩ := own7.form (by omega)
  simp only [hl2]
  have A1 : ∀ (j : Nat) (x : Int), L1[j]? = some x → w7.cell? ⟨g, j, none⟩ = some (.int .i64 x) := fun j x h => (b57.cell (p := ⟨g, j, none⟩) HG.out).trans (HC.out j x h)
  have a1 := A1 _ _ HF1.out.2.1
  have a2 := hcells' _ _ HF2.out.2.1
  have HA1 := Lib.hid (fun (j : Nat) (h : j < K) (h' : j ≠ i0 + 1 - 1) => A1 j 0 (HF1.out.2.2 j h h'))
  have HA2 := Lib.hid (fun (j : Nat) (h : j < K) (h' : j ≠ i0 + 1 - 1) => hcells' j 0 (HF2.out.2.2 j h h'))
  have HB7 := Lib.hid B7
  clear b6 b7 b57 B7 hl2 own7 hcells' hg' A1 HC HG HF1 HF2 HB5 t0 t1 t2
  try clear hHeld
  simp only [show i0 + 1 - 1 = i0 by omega] at a1 a2 HA1 HA2
  have hi0 : i0 < K := by omega
  have hK13 : K ≤ 12 := by omega
  go_wp2_with fail
  have hsub : 1 + (i0 : Int) - 1 = (i0 : Int) := by omega
  clear c1 c2 c3 c4 c5 c6 c7 q1 q2 q3 q4 g1 g2 g3 g4 hK hi he hne h2' h3'
  go_loopw [11] (fun j wr => ∃ q : Nat, q ≤ K ∧ j = .int .i64 q ∧ wr = w7) (fun j _ => K - (intOf j).toNat)
  case atStart => exact ⟨0, by omega, rfl, rfl⟩
  case round =>
    obtain ⟨q, hq, rfl, rfl⟩ := hrel
    by_cases hlt : q < K
    · by_cases hqi : q = i0
      · subst hqi
        go_wp2_with fail
        go_roundw
        case rel => exact ⟨q + 1, by omega, by go_num, by trivial⟩
        case measure => simp [intOf]; omega
      · have hne1 : ((q : Int) != (i0 : Int)) = true := by simp; omega
        have e1 := HA1.out q hlt (by omega)
        have e2 := HA2.out q hlt (by omega)
        clear hqi
        go_wp2_with fail
        go_roundw
        case rel => exact ⟨q + 1, by omega, by go_num, by trivial⟩
        case measure => simp [intOf]; omega
    · have hge : decide ((q : Int) < (K : Int)) = false := by simp; omega
      go_wp2_with fail
      go_ret
      exact ⟨rfl, HB7.out⟩

theorem BankWrites_walk (k n d a b : Int) (hk : (Lit.int .i64 k).wf = true) (hn : (Lit.int .u64 n).wf = true) (hd : (Lit.int .u64 d).wf = true) (ha : (Lit.int .u8 a).wf = true) (hb : (Lit.int .u8 b).wf = true) (w : World) :
    Calls Try.prog 6 #[.agg #[.int .i64 k, .int .u64 n, .int .u64 d], .int .u8 a, .int .u8 b] w fun e w' => e = .returned (.bool true) ∧ Below w.heap.size w w' := by
  have ha' : 0 ≤ a ∧ a < 256 := by simp [Lit.wf, IntKind.min, IntKind.max, IntKind.signed, IntKind.bits] at ha; omega
  have hb' : 0 ≤ b ∧ b < 256 := by simp [Lit.wf, IntKind.min, IntKind.max, IntKind.signed, IntKind.bits] at hb; omega
  have hn' : 0 ≤ n ∧ n < 18446744073709551616 := by simp [Lit.wf, IntKind.min, IntKind.max, IntKind.signed, IntKind.bits] at hn; omega
  have hd' : 0 ≤ d ∧ d < 18446744073709551616 := by simp [Lit.wf, IntKind.min, IntKind.max, IntKind.signed, IntKind.bits] at hd; omega
  by_cases h : k < 2 ∨ 3 < k
  · exact writes_out k n d a b h ha' hb' w
  · obtain ⟨a, rfl⟩ : ∃ x : Nat, a = (x : Int) := ⟨a.toNat, by omega⟩
    obtain ⟨b, rfl⟩ : ∃ x : Nat, b = (x : Int) := ⟨b.toNat, by omega⟩
    obtain ⟨n, rfl⟩ : ∃ x : Nat, n = (x : Int) := ⟨n.toNat, by omega⟩
    obtain ⟨d, rfl⟩ : ∃ x : Nat, d = (x : Int) := ⟨d.toNat, by omega⟩
    have hm : b % (1 + a % 12) < 1 + a % 12 := Nat.mod_lt _ (by omega)
    exact writes_law k n d a b (b % (1 + a % 12)) (1 + a % 12 - (1 + b % (1 + a % 12))) (1 + a % 12) (by omega) (by omega) (by omega) (by omega) (by omega) (by omega) (by omega) (by rw [← Int.natCast_emod]) (by omega) (by omega) (by omega) w
end Go.Proofs.Ytbaahogdgldcpaa
