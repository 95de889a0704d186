/- The walk of the law ScanDirt. -/
import Derived.Test.YtopcklbeppiipaaScanP
namespace Go.Proofs.Ytopcklbeppiipaa
open Go.RowKit
set_option linter.unusedVariables false
set_option linter.unusedSimpArgs false

theorem rslots_nat (s : ByteArray) (w : World) : Calls Try.prog 10 #[.int .i64 (s.size : Int)] w fun e w' => e = .returned (.int .i64 ((placeN s - 1 : Nat) : Int)) ∧ w = w' := by
  have := rslots_any (s.size : Int) w
  rw [placeN_slots, show (placeN s : Int) - (if 0 < placeN s then 1 else 0) = ((placeN s - 1 : Nat) : Int) by split <;> omega] at this
  exact this
theorem stateP_pos (k : Int) (p : ByteArray) (h : k ≠ 0) : stateP k p = stateP 1 p := by
  unfold stateP; simp [h]
theorem behind_blank (p : ByteArray) (hp : p.size = 24) : stateS (fullB 24 ++ p) 1 = stateP 1 p := by
  have M : Made (fullB 24 ++ p) (fullB 24) p ⟨#[]⟩ 1 1 := ⟨by apply ByteArray.ext; apply Array.ext'; simp, fullB_size 24, hp, rfl, by omega, by omega, by omega⟩
  have := M.placeN
  unfold stateS
  rw [show (1 : Int) = ((1 : Nat) : Int) from rfl, slotS_nat _ _ (by omega), M.at]

theorem dirt_out1 (s t : ByteArray) (h : 400 < s.size ∨ (s.size ≤ 400 ∧ t.size ≠ 24)) (hs : s.size ≤ maxLen) (ht : t.size ≤ maxLen) (w : World) :
    Calls Try.prog 6 #[.string s, .string t] w fun e w' => e = .returned (.bool true) ∧ Below w.heap.size w w' := by
  have hR := rslots_nat s
  have hN := Next_any s hs
  generalize placeN s - 1 = n at *
  generalize nextS s = K at *
  unfold maxLen at hs ht
  rcases h with h | ⟨h, h24⟩
  · go_enter Try.func6, Try.ntmps6
    go_wp2_with (with_reducible refine (hR _).mono ?_; rintro e w1 ⟨rfl, rfl⟩)
    go_wp2_with (with_reducible refine (hN _).mono ?_; rintro e w2 ⟨rfl, b2⟩)
    go_wp2_with (with_reducible refine (shown9_any _).mono ?_; rintro e w3 ⟨rfl, b3⟩)
    go_ret
    exact ⟨rfl, bthen b2 b3⟩
  · have e24 : ((t.size : Int) != 24) = true := by simp; omega
    clear h24
    go_enter Try.func6, Try.ntmps6
    go_wp2_with (with_reducible refine (hR _).mono ?_; rintro e w1 ⟨rfl, rfl⟩)
    go_wp2_with (with_reducible refine (hN _).mono ?_; rintro e w2 ⟨rfl, b2⟩)
    go_wp2_with (with_reducible refine (shown9_any _).mono ?_; rintro e w3 ⟨rfl, b3⟩)
    go_ret
    exact ⟨rfl, bthen b2 b3⟩

theorem dirt_out2 (s t : ByteArray) (h : s.size ≤ 400) (h24 : t.size = 24) (hk : nextS s = 0) (w : World) :
    Calls Try.prog 6 #[.string s, .string t] w fun e w' => e = .returned (.bool true) ∧ Below w.heap.size w w' := by
  have hR := rslots_nat s
  have hN := Next_any s (by unfold maxLen; omega)
  rw [hk] at hN
  generalize placeN s - 1 = n at *
  have e24 : ((t.size : Int) != 24) = false := by simp; omega
  clear h24 hk
  go_enter Try.func6, Try.ntmps6
  go_wp2_with (with_reducible refine (hR _).mono ?_; rintro e w1 ⟨rfl, rfl⟩)
  go_wp2_with (with_reducible refine (hN _).mono ?_; rintro e w2 ⟨rfl, b2⟩)
  go_wp2_with (with_reducible refine (shown9_any _).mono ?_; rintro e w3 ⟨rfl, b3⟩)
  go_ret
  exact ⟨rfl, bthen b2 b3⟩

theorem dirt_out3 (s t : ByteArray) (k m : Nat) (h : s.size ≤ 400) (h24 : t.size = 24) (hN : placeN s = m + 1) (hk : nextS s = (k : Int)) (hk1 : 1 ≤ k) (hkm : k ≤ m) (hm12 : m ≤ 12) (hc : stateP 1 t ≠ 1) (w : World) :
    Calls Try.prog 6 #[.string s, .string t] w fun e w' => e = .returned (.bool true) ∧ Below w.heap.size w w' := by
  have hR := rslots_nat s
  rw [hN, show m + 1 - 1 = m by omega] at hR
  have hNx := Next_any s (by unfold maxLen; omega)
  rw [hk] at hNx
  have h4 : ∀ W, Calls Try.prog 17 #[.int .i64 24] W fun e w' => e = .returned (.string (fullB 24)) ∧ W = w' := sblank_any 24 (by decide)
  have z4 := fullB_size 24
  have hS := State_any (fullB 24 ++ t) 1 (by rw [ByteArray.size_append, z4, h24]; decide)
  rw [behind_blank t h24] at hS
  generalize stateP 1 t = S at *
  generalize fullB 24 = X at *
  have e24 : ((t.size : Int) != 24) = false := by simp; omega
  have eS : (S != 1) = true := by simpa using hc
  have hz : t.size ≤ 24 := by omega
  have d1 : decide ((k : Int) < 1) = false := by simp; omega
  have d1' : decide (k < 1) = false := by simp; omega
  have d2 : decide ((m : Int) < (k : Int)) = false := by simp; omega
  have d2' : decide (m < k) = false := by simp; omega
  clear h24 hk hN hc
  go_enter Try.func6, Try.ntmps6
  go_wp2_with (with_reducible refine (hR _).mono ?_; rintro e w1 ⟨rfl, rfl⟩)
  refine (hNx _).mono ?_
  rintro e w2 ⟨rfl, b2⟩
  go_wp2_with fail
  refine (h4 _).mono ?_
  rintro e w3 ⟨rfl, rfl⟩
  go_wp2_with fail
  refine (hS _).mono ?_
  rintro e w4 ⟨rfl, b4⟩
  go_wp2_with fail
  refine (shown9_any _).mono ?_
  rintro e w5 ⟨rfl, b5⟩
  go_wp2
  go_ret
  exact ⟨rfl, bthen (bthen b2 b4) b5⟩

set_option maxHeartbeats 4000000 in
theorem dirt_law (s t : ByteArray) (k m : Nat) (h : s.size ≤ 400) (h24 : t.size = 24) (hN : placeN s = m + 1) (hk : nextS s = (k : Int)) (hk1 : 1 ≤ k) (hkm : k ≤ m) (hm12 : m ≤ 12) (hc : stateP 1 t = 1) (w : World) :
    Calls Try.prog 6 #[.string s, .string t] w fun e w' => e = .returned (.bool true) ∧ Below w.heap.size w w' := by
  have hmx : s.size ≤ maxLen := by unfold maxLen; omega
  have hR := rslots_nat s
  rw [hN, show m + 1 - 1 = m by omega] at hR
  have hNx := Next_any s hmx
  rw [hk] at hNx
  have h4 : ∀ W, Calls Try.prog 17 #[.int .i64 24] W fun e w' => e = .returned (.string (fullB 24)) ∧ W = w' := sblank_any 24 (by decide)
  have z4 := fullB_size 24
  have hS := State_any (fullB 24 ++ t) 1 (by rw [ByteArray.size_append, z4, h24]; decide)
  rw [behind_blank t h24, hc] at hS
  have SW := swap_mk s t k m hN (by omega) hkm h24
  have hck : stateP (k : Int) t = 1 := by rw [stateP_pos _ _ (by omega), hc]
  have hsz := (placeN_pos (by omega : 0 < placeN s)).1
  rw [hN] at hsz
  have zA : (s.extract 0 (24 * k)).size ≤ 400 := by rw [ByteArray.size_extract]; omega
  have zC : (s.extract (24 * k + 24) s.size).size ≤ 400 := by rw [ByteArray.size_extract]; omega
  have hb1 : (24 * (k : Int)) ≤ (s.size : Int) := by omega
  have hb2 : (24 * (k : Int)) + 24 ≤ (s.size : Int) := by omega
  generalize hU : s.extract 0 (24 * k) ++ t ++ s.extract (24 * k + 24) s.size = U at *
  have hux : U.size ≤ maxLen := by rw [SW.size]; exact hmx
  have hL1 := Last_any s hmx
  have hL2 := Last_any U hux
  rw [swap_dirt SW hk1 hk (by rw [hck]; decide)] at hL2
  have hN2 := Next_any U hux
  rw [swap_next SW hk1 hk (by rw [hck]; decide)] at hN2
  have hG1 := Good_any s hmx
  have hG2 := Good_any U hux
  rw [swap_good SW hk1 hk, hck, if_neg (by decide), Nat.add_zero] at hG2
  unfold lastV at hL1 hL2
  generalize oK s (lastS s) = LK at *
  generalize oN s (lastS s) = LN at *
  generalize oD s (lastS s) = LD at *
  generalize oE (lastS s) = LE at *
  generalize goodS s = G at *
  generalize fullB 24 = X at *
  have HU := Lib.hid hU
  have e24 : ((t.size : Int) != 24) = false := by simp; omega
  have hz : t.size ≤ 24 := by omega
  have d1 : decide ((k : Int) < 1) = false := by simp; omega
  have d1' : decide (k < 1) = false := by simp; omega
  have d2 : decide ((m : Int) < (k : Int)) = false := by simp; omega
  have d2' : decide (m < k) = false := by simp; omega
  clear h24 hk hN hc SW hck hsz hU hmx hux
  go_enter Try.func6, Try.ntmps6
  go_wp2_with (with_reducible refine (hR _).mono ?_; rintro e w1 ⟨rfl, rfl⟩)
  refine (hNx _).mono ?_
  rintro e w2 ⟨rfl, b2⟩
  go_wp2_with fail
  refine (h4 _).mono ?_
  rintro e w3 ⟨rfl, rfl⟩
  go_wp2_with fail
  refine (hS _).mono ?_
  rintro e w4 ⟨rfl, b4⟩
  go_wp2_with fail
  refine (shown9_any _).mono ?_
  rintro e w5 ⟨rfl, b5⟩
  have B5 := bthen (bthen b2 b4) b5
  clear b2 b4 b5
  go_wp2_with fail
  go_quiet (fail)
  have B6 : Below w.heap.size w (w5.drewN nq) := ⟨B5.os, B5.tape, B5.output, B5.size, B5.block⟩
  generalize w5.drewN nq = w6 at *
  rw [HU.out]
  clear B5
  go_wp2_with fail
  refine (hL1 _).mono ?_
  rintro e w7 ⟨rfl, b7⟩
  have b8 : Below w7.heap.size w7 (w7.alloc (.cells #[.int .i64 (LK : Int), .int .u64 (LN : Int), .int .u64 (LD : Int)] 25)) := (Below.refl _ w7).alloc (Nat.le_refl _) _
  have q8 := Blk.new w7 25 #[.int .i64 (LK : Int), .int .u64 (LN : Int), .int .u64 (LD : Int)]
  generalize hW8 : w7.alloc (.cells #[.int .i64 (LK : Int), .int .u64 (LN : Int), .int .u64 (LD : Int)] 25) = W8 at *
  have B8 := Lib.hid (bthen (bthen B6 b7) b8)
  have Q8 := Lib.hid q8
  clear B6 b7 b8 q8
  go_wp2_with fail
  clear hW8
  refine (hL2 _).mono ?_
  rintro e w9 ⟨rfl, b9⟩
  have b10 : Below w9.heap.size w9 (w9.alloc (.cells #[.int .i64 (LK : Int), .int .u64 (LN : Int), .int .u64 (LD : Int)] 25)) := (Below.refl _ w9).alloc (Nat.le_refl _) _
  have q10 := Blk.new w9 25 #[.int .i64 (LK : Int), .int .u64 (LN : Int), .int .u64 (LD : Int)]
  have p9 := Blk.below Q8.out b9 Q8.out.lt
  generalize hW10 : w9.alloc (.cells #[.int .i64 (LK : Int), .int .u64 (LN : Int), .int .u64 (LD : Int)] 25) = W10 at *
  have p10 := p9.below b10 p9.lt
  have B10 := Lib.hid (bthen (bthen B8.out b9) b10)
  have r0 := p10.cell 0
  have r1 := p10.cell 1
  have r2 := p10.cell 2
  have t0 := q10.cell 0
  have t1 := q10.cell 1
  have t2 := q10.cell 2
  simp at r0 r1 r2 t0 t1 t2
  clear B8 Q8 b9 b10 q10 p9 p10
  by_cases hkm2 : k = m
  · subst hkm2
    rw [if_pos rfl] at hN2
    go_wp2_with fail
    refine (hN2 _).mono ?_
    rintro e w11 ⟨rfl, b11⟩
    go_wp2_with fail
    refine (hG2 _).mono ?_
    rintro e w12 ⟨rfl, b12⟩
    go_wp2_with fail
    refine (hG1 _).mono ?_
    rintro e w13 ⟨rfl, b13⟩
    go_wp2
    go_ret
    exact ⟨rfl, bthen (bthen (bthen B10.out b11) b12) b13⟩
  · rw [if_neg hkm2] at hN2
    have ek : ((k : Int) == (m : Int)) = false := by simp; omega
    have ek' : (k == m) = false := by simp; omega
    clear hkm2
    go_wp2_with fail
    refine (hN2 _).mono ?_
    rintro e w11 ⟨rfl, b11⟩
    go_wp2_with fail
    refine (hG2 _).mono ?_
    rintro e w12 ⟨rfl, b12⟩
    go_wp2_with fail
    refine (hG1 _).mono ?_
    rintro e w13 ⟨rfl, b13⟩
    go_wp2
    go_ret
    exact ⟨rfl, bthen (bthen (bthen B10.out b11) b12) b13⟩

theorem ScanDirt_walk (s t : ByteArray) (hs : s.size ≤ maxLen) (ht : t.size ≤ maxLen) (w : World) :
    Calls Try.prog 6 #[.string s, .string t] w fun e w' => e = .returned (.bool true) ∧ Below w.heap.size w w' := by
  by_cases h : 400 < s.size ∨ (s.size ≤ 400 ∧ t.size ≠ 24)
  · exact dirt_out1 s t h hs ht w
  · have h1 : s.size ≤ 400 := by omega
    have h24 : t.size = 24 := by omega
    rcases nextS_le s with hk | ⟨k, m, hk, hk1, hkm, hN, hm12⟩
    · exact dirt_out2 s t h1 h24 hk w
    · by_cases hc : stateP 1 t = 1
      · exact dirt_law s t k m h1 h24 hN hk hk1 hkm hm12 hc w
      · exact dirt_out3 s t k m h1 h24 hN hk hk1 hkm hm12 hc w
end Go.Proofs.Ytopcklbeppiipaa
