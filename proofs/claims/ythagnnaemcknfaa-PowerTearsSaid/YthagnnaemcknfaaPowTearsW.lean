/- The walk of the law PowerTears. -/
import Derived.Test.YthagnnaemcknfaaPowTears
import Derived.Test.YthagnnaemcknfaaCalmHead
namespace Go.Proofs.Ythagnnaemcknfaa
open Go.RowKit
set_option linter.unusedVariables false
set_option linter.unusedSimpArgs false

set_option maxRecDepth 100000 in
set_option maxHeartbeats 4000000 in
theorem tears_out (f : Fl) (o : Oq) (ho : o.ok) (mask : ByteArray) (wa : f.a.size ≤ maxLen) (wb : f.b.size ≤ maxLen) (wm : mask.size ≤ maxLen) (h : bigB f [o] mask = true) (w : World) :
    Calls Try.prog 3 #[flV f, oqV o, .string mask] w fun e w' => e = .returned (.bool true) ∧ Below w.heap.size w w' := by
  have hbig := fun v W => big_any (f) wa wb v [o] (by simp; exact ho.hd) (by simp [maxLen]) mask wm W
  have hB0 : Below w.heap.size w (((w.alloc (.cells (flC (f)) 25)).alloc (.cells (opC (o)) 27)).alloc (.cells (opC (o)) 27)) := (((Below.refl _ w).alloc (Nat.le_refl _) _).alloc (by simp) _).alloc (by simp; omega) _
  have hV := OpsV.one ((w.alloc (.cells (flC (f)) 25)).alloc (.cells (opC (o)) 27)) 27 (o)
  have kF := ((Blk.new w 25 (flC (f))).alloc (.cells (opC (o)) 27)).alloc (.cells (opC (o)) 27)
  have kO := (Blk.new (w.alloc (.cells (flC (f)) 25)) 27 (opC (o))).alloc (.cells (opC (o)) 27)
  simp only [World.size_alloc] at hV kO
  go_enter Try.func3, Try.ntmps3
  go_wp2_with fail
  refine (hbig _ _ hV).mono ?_
  rintro e w1 ⟨rfl, b1⟩
  generalize World.alloc (World.alloc (World.alloc w _) _) _ = W0 at *
  replace kF := kF.below b1 kF.lt
  replace kO := kO.below b1 kO.lt
  have B1 := bthen hB0 b1
  clear hV hB0 b1 hbig
  rw [h]
  clear h
  go_wp2_with (with_reducible refine (shown_any _).mono ?_; rintro e w2 ⟨rfl, b2⟩)
  go_ret
  exact ⟨rfl, bthen B1 b2⟩

set_option maxRecDepth 100000 in
set_option maxHeartbeats 4000000 in
theorem tears_bad (f : Fl) (o : Oq) (ho : o.ok) (mask : ByteArray) (wm : mask.size ≤ maxLen) (h : bigB f [o] mask = false) (E : Int) (hE : (E != 0) = true)
    (hT : ∀ W, Calls Try.prog 8 #[flV f, oqV o, .string mask] W fun e w' => e = .returned (.tuple #[flV f, .int .i64 E]) ∧ Below W.heap.size W w') (w : World) :
    Calls Try.prog 3 #[flV f, oqV o, .string mask] w fun e w' => e = .returned (.bool true) ∧ Below w.heap.size w w' := by
  have hbn := bigB_no h
  have wa : f.a.size ≤ maxLen := by unfold maxLen; omega
  have wb : f.b.size ≤ maxLen := by unfold maxLen; omega
  clear hbn
  have hbig := fun v W => big_any (f) wa wb v [o] (by simp; exact ho.hd) (by simp [maxLen]) mask wm W
  have hB0 : Below w.heap.size w (((w.alloc (.cells (flC (f)) 25)).alloc (.cells (opC (o)) 27)).alloc (.cells (opC (o)) 27)) := (((Below.refl _ w).alloc (Nat.le_refl _) _).alloc (by simp) _).alloc (by simp; omega) _
  have hV := OpsV.one ((w.alloc (.cells (flC (f)) 25)).alloc (.cells (opC (o)) 27)) 27 (o)
  have kF := ((Blk.new w 25 (flC (f))).alloc (.cells (opC (o)) 27)).alloc (.cells (opC (o)) 27)
  have kO := (Blk.new (w.alloc (.cells (flC (f)) 25)) 27 (opC (o))).alloc (.cells (opC (o)) 27)
  simp only [World.size_alloc] at hV kO
  go_enter Try.func3, Try.ntmps3
  go_wp2_with fail
  refine (hbig _ _ hV).mono ?_
  rintro e w1 ⟨rfl, b1⟩
  generalize World.alloc (World.alloc (World.alloc w _) _) _ = W0 at *
  replace kF := kF.below b1 kF.lt
  replace kO := kO.below b1 kO.lt
  have B1 := bthen hB0 b1
  clear hV hB0 b1 hbig
  rw [h]
  clear h
  go_wp2_with fail
  refine (shown_any _).mono ?_
  rintro e w2 ⟨rfl, b2⟩
  replace kF := kF.below b2 kF.lt
  replace kO := kO.below b2 kO.lt
  have B2 := bthen B1 b2
  clear b2 B1
  have r_0 := kF.cell 0
  have r_1 := kF.cell 1
  have r_2 := kF.cell 2
  have r_3 := kF.cell 3
  have r_4 := kF.cell 4
  simp at r_0 r_1 r_2 r_3 r_4
  have q_0 := kO.cell 0
  have q_1 := kO.cell 1
  have q_2 := kO.cell 2
  have q_3 := kO.cell 3
  simp at q_0 q_1 q_2 q_3
  go_wp2_with fail
  refine (hT _).mono ?_
  rintro e w3 ⟨rfl, b3⟩
  clear r_0 r_1 r_2 r_3 r_4 q_0 q_1 q_2 q_3
  replace kF := (kF.below b3 kF.lt).alloc (.cells (flC f) 25)
  have kA := Blk.new w3 25 (flC f)
  have B3 := (bthen B2 b3).alloc (bthen B2 b3).size (.cells (flC f) 25)
  have e1 := eq_strs f.a f.b f.a f.b
  have e2 := eq_ints f.x f.y f.x f.y
  have r_0 := kF.cell 0
  have r_1 := kF.cell 1
  have r_2 := kF.cell 2
  have r_3 := kF.cell 3
  have r_4 := kF.cell 4
  simp at r_0 r_1 r_2 r_3 r_4
  have s_0 := kA.cell 0
  have s_1 := kA.cell 1
  have s_2 := kA.cell 2
  have s_3 := kA.cell 3
  have s_4 := kA.cell 4
  simp at s_0 s_1 s_2 s_3 s_4
  go_wp2_with fail
  go_ret
  exact ⟨rfl, B3⟩

set_option maxRecDepth 100000 in
set_option maxHeartbeats 4000000 in
theorem tears_one0 (a b d mask T : ByteArray) (x y l x' : Int) (t : Nat) (ho : Oq.ok ⟨1, 0, (t : Int), d⟩) (wm : mask.size ≤ maxLen) (h : bigB ⟨a, b, x, y, l⟩ [⟨1, 0, (t : Int), d⟩] mask = false)
    (hz : T.size = a.size) (hd : t + d.size ≤ a.size)
    (p1 : ∀ i, i < a.size → (i < t ∨ t + d.size ≤ i) → byteOr T 0 i = byteOr a 0 i)
    (p2 : ∀ i, i < a.size → t ≤ i → i < t + d.size → ∀ j, j < 8 → mayBit ((byteOr a 0 i).toBitVec.getLsbD j) ((byteOr d 255 (i - t)).toBitVec.getLsbD j) ((byteOr T 0 i).toBitVec.getLsbD j) = true)
    (hT : ∀ W, Calls Try.prog 8 #[flV ⟨a, b, x, y, l⟩, oqV ⟨1, 0, (t : Int), d⟩, .string mask] W fun e w' => e = .returned (.tuple #[.agg #[.string T, .string b, .int .i64 x', .int .i64 y, .int .i64 l], .int .i64 0]) ∧ Below W.heap.size W w') (w : World) :
    Calls Try.prog 3 #[flV ⟨a, b, x, y, l⟩, oqV ⟨1, 0, (t : Int), d⟩, .string mask] w fun e w' => e = .returned (.bool true) ∧ Below w.heap.size w w' := by
  have hbn := bigB_no h
  have ha : a.size ≤ 500 := hbn.2.1
  have hb : b.size ≤ 500 := hbn.2.2.1
  have wa : a.size ≤ maxLen := by unfold maxLen; omega
  have wb : b.size ≤ maxLen := by unfold maxLen; omega
  clear hbn
  have P1 := Lib.hid p1
  have P2 := Lib.hid p2
  have HZ := Lib.hid hz
  have hTs : T.size ≤ 500 := by omega
  have hne : ((a.size : Int) != (T.size : Int)) = false := by simp; omega
  have hne2 : (a.size != T.size) = false := by simp; omega
  clear p1 p2 hz
  have hbig := fun v W => big_any ((⟨a, b, x, y, l⟩ : Fl)) wa wb v [(⟨1, 0, (t : Int), d⟩ : Oq)] (by simp; exact ho.hd) (by simp [maxLen]) mask wm W
  have hB0 : Below w.heap.size w (((w.alloc (.cells (flC ((⟨a, b, x, y, l⟩ : Fl))) 25)).alloc (.cells (opC ((⟨1, 0, (t : Int), d⟩ : Oq))) 27)).alloc (.cells (opC ((⟨1, 0, (t : Int), d⟩ : Oq))) 27)) := (((Below.refl _ w).alloc (Nat.le_refl _) _).alloc (by simp) _).alloc (by simp; omega) _
  have hV := OpsV.one ((w.alloc (.cells (flC ((⟨a, b, x, y, l⟩ : Fl))) 25)).alloc (.cells (opC ((⟨1, 0, (t : Int), d⟩ : Oq))) 27)) 27 ((⟨1, 0, (t : Int), d⟩ : Oq))
  have kF := ((Blk.new w 25 (flC ((⟨a, b, x, y, l⟩ : Fl)))).alloc (.cells (opC ((⟨1, 0, (t : Int), d⟩ : Oq))) 27)).alloc (.cells (opC ((⟨1, 0, (t : Int), d⟩ : Oq))) 27)
  have kO := (Blk.new (w.alloc (.cells (flC ((⟨a, b, x, y, l⟩ : Fl))) 25)) 27 (opC ((⟨1, 0, (t : Int), d⟩ : Oq)))).alloc (.cells (opC ((⟨1, 0, (t : Int), d⟩ : Oq))) 27)
  simp only [World.size_alloc] at hV kO
  go_enter Try.func3, Try.ntmps3
  go_wp2_with fail
  refine (hbig _ _ hV).mono ?_
  rintro e w1 ⟨rfl, b1⟩
  generalize World.alloc (World.alloc (World.alloc w _) _) _ = W0 at *
  replace kF := kF.below b1 kF.lt
  replace kO := kO.below b1 kO.lt
  have B1 := bthen hB0 b1
  clear hV hB0 b1 hbig
  rw [h]
  clear h
  go_wp2_with fail
  refine (shown_any _).mono ?_
  rintro e w2 ⟨rfl, b2⟩
  replace kF := kF.below b2 kF.lt
  replace kO := kO.below b2 kO.lt
  have B2 := bthen B1 b2
  clear b2 B1
  have r_0 := kF.cell 0
  have r_1 := kF.cell 1
  have r_2 := kF.cell 2
  have r_3 := kF.cell 3
  have r_4 := kF.cell 4
  simp at r_0 r_1 r_2 r_3 r_4
  have q_0 := kO.cell 0
  have q_1 := kO.cell 1
  have q_2 := kO.cell 2
  have q_3 := kO.cell 3
  simp at q_0 q_1 q_2 q_3
  go_wp2_with fail
  refine (hT _).mono ?_
  rintro e w3 ⟨rfl, b3⟩
  clear r_0 r_1 r_2 r_3 r_4 q_0 q_1 q_2 q_3
  replace kF := (kF.below b3 kF.lt).alloc (.cells #[.string T, .string b, .int .i64 x', .int .i64 y, .int .i64 l] 25)
  replace kO := (kO.below b3 kO.lt).alloc (.cells #[.string T, .string b, .int .i64 x', .int .i64 y, .int .i64 l] 25)
  have kA := Blk.new w3 25 #[.string T, .string b, .int .i64 x', .int .i64 y, .int .i64 l]
  have B3 := (bthen B2 b3).alloc (bthen B2 b3).size (.cells #[.string T, .string b, .int .i64 x', .int .i64 y, .int .i64 l] 25)
  have r_0 := kF.cell 0
  have r_1 := kF.cell 1
  have r_2 := kF.cell 2
  have r_3 := kF.cell 3
  have r_4 := kF.cell 4
  simp at r_0 r_1 r_2 r_3 r_4
  have q_0 := kO.cell 0
  have q_1 := kO.cell 1
  have q_2 := kO.cell 2
  have q_3 := kO.cell 3
  simp at q_0 q_1 q_2 q_3
  go_wp2_with fail
  generalize World.alloc w3 _ = W3 at *
  have s_0 := kA.cell 0
  have s_1 := kA.cell 1
  have s_2 := kA.cell 2
  have s_3 := kA.cell 3
  have s_4 := kA.cell 4
  simp at s_0 s_1 s_2 s_3 s_4
  have hw10 : IntKind.i64.wrap 1 = 1 := by decide
  go_quiet (fail)
  go_wp2_with fail
  have kO3 : Blk (W3.drewN nq) (w.heap.size + 1) 27 (opC ⟨1, 0, (t : Int), d⟩) := kO
  have B4 : Below w.heap.size w (W3.drewN nq) := bdrew B3 nq
  generalize W3.drewN nq = W4 at *
  clear r_0 r_1 r_2 r_3 r_4 q_0 q_1 q_2 q_3 s_0 s_1 s_2 s_3 s_4 hw10 kF kO kA B3 hne hne2
  go_loopw [11, 12] (fun i m wr => ∃ k : Nat, k ≤ a.size ∧ i = .int .i64 k ∧ Blk wr (w.heap.size + 1) 27 (opC ⟨1, 0, (t : Int), d⟩) ∧ Below w.heap.size w wr) (fun i _ _ => a.size - (intOf i).toNat)
  case atStart => exact ⟨0, by omega, rfl, kO3, B4⟩
  case round =>
    clear kO3 B4
    obtain ⟨k, hk, rfl, kO, B⟩ := hrel
    have q_0 := kO.cell 0
    have q_1 := kO.cell 1
    have q_2 := kO.cell 2
    have q_3 := kO.cell 3
    simp at q_0 q_1 q_2 q_3
    by_cases hlt : k < a.size
    · have hkT : k < T.size := by have := HZ.out; omega
      by_cases hin : t ≤ k ∧ k < t + d.size
      · obtain ⟨h1, h2⟩ := hin
        have d1 : decide ((t : Int) ≤ (k : Int)) = true := by simp; omega
        have d2 : decide ((k : Int) - (t : Int) < (d.size : Int)) = true := by simp; omega
        have g0 : (0 : Int) ≤ (k : Int) - (t : Int) := by omega
        have g1 : (k : Int) - (t : Int) ≤ 1000 := by omega
        have y1 : (a.extract k (k + 1)).size = 1 := by rw [ByteArray.size_extract]; omega
        have y2 : (d.extract (k - t) (k - t + 1)).size = 1 := by rw [ByteArray.size_extract]; omega
        have y3 : (T.extract k (k + 1)).size = 1 := by rw [ByteArray.size_extract]; omega
        have hM := fun W => rMay_yes (a.extract k (k + 1)) (d.extract (k - t) (k - t + 1)) (T.extract k (k + 1)) (by omega) (by omega) (fun i hi j hj => by
          obtain rfl : i = 0 := by omega
          have := P2.out k hlt h1 h2 j hj
          rw [byteOr_ext _ _ _ _ _ (by omega) (by omega), byteOr_ext _ _ _ _ _ (by omega) (by omega), byteOr_ext _ _ _ _ _ (by omega) (by omega), byteOr_any (show k - t + 0 < d.size by omega) 0 255]
          simpa using this) W
        clear y1 y2 y3
        go_wp2_with fail
        have w1 : IntKind.i64.wrap ((k : Int) + 1) = (k : Int) + 1 := IntWalk.i64_in _ (by omega)
        have w2 : IntKind.i64.wrap ((k : Int) - (t : Int)) = (k : Int) - (t : Int) := IntWalk.i64_in _ (by omega)
        have w3' : IntKind.i64.wrap ((k : Int) - (t : Int) + 1) = (k : Int) - (t : Int) + 1 := IntWalk.i64_in _ (by omega)
        have g2 : (0 : Int) ≤ (k : Int) + 1 := by omega
        have g3 : (0 : Int) ≤ (k : Int) - (t : Int) + 1 := by omega
        have n1 : ((k : Int) + 1).toNat = k + 1 := by omega
        have n2 : ((k : Int) - (t : Int)).toNat = k - t := by omega
        have n3 : ((k : Int) - (t : Int) + 1).toNat = k - t + 1 := by omega
        have l1 : k + 1 ≤ a.size := hlt
        have l2 : k + 1 ≤ T.size := hkT
        have l3 : k - t + 1 ≤ d.size := by omega
        have l4 : (k : Int) + 1 ≤ (a.size : Int) := by omega
        have l5 : (k : Int) + 1 ≤ (T.size : Int) := by omega
        have l6 : (k : Int) - (t : Int) + 1 ≤ (d.size : Int) := by omega
        have l7 : (k : Int) ≤ (k : Int) + 1 := by omega
        have l8 : (k : Int) - (t : Int) ≤ (k : Int) - (t : Int) + 1 := by omega
        go_quiet (fail)
        go_wp2_with fail
        replace kO : Blk (wr.drewN nq) (w.heap.size + 1) 27 (opC ⟨1, 0, (t : Int), d⟩) := kO
        replace B := bdrew B nq
        clear q_0 q_1 q_2 q_3
        generalize wr.drewN nq = wq at *
        have q_0 := kO.cell 0
        have q_1 := kO.cell 1
        have q_2 := kO.cell 2
        have q_3 := kO.cell 3
        simp at q_0 q_1 q_2 q_3
        go_quiet ((exact Calls.quiet_of_same ((hM _).mono fun _ _ h => ⟨h.1, h.2.symm⟩)))
        clear w1 w2 w3' n1 n2 n3
        go_wp2_with fail
        go_roundw
        case rel => exact ⟨k + 1, by omega, by go_num, kO, bdrew B _⟩
        case measure => simp [intOf]; omega
      · have hx := P1.out k hlt (by omega)
        rw [byteOr_lt T 0 k hkT, byteOr_lt a 0 k hlt] at hx
        by_cases h1 : t ≤ k
        · have d1 : decide ((t : Int) ≤ (k : Int)) = true := by simp; omega
          have d2 : decide ((k : Int) - (t : Int) < (d.size : Int)) = false := by simp; omega
          have g0 : (0 : Int) ≤ (k : Int) - (t : Int) := by omega
          have g1 : (k : Int) - (t : Int) ≤ 1000 := by omega
          clear hin
          go_wp2_with fail
          go_quiet (fail)
          go_wp2_with fail
          go_quiet (fail)
          go_wp2_with fail
          go_roundw
          case rel => exact ⟨k + 1, by omega, by go_num, kO, bdrew B _⟩
          case measure => simp [intOf]; omega
        · have d1 : decide ((t : Int) ≤ (k : Int)) = false := by simp; omega
          have d1' : decide (t ≤ k) = false := by simp; omega
          clear hin
          go_wp2_with fail
          go_quiet (fail)
          go_wp2_with fail
          go_quiet (fail)
          go_wp2_with fail
          go_roundw
          case rel => exact ⟨k + 1, by omega, by go_num, kO, bdrew B _⟩
          case measure => simp [intOf]; omega
    · obtain rfl : k = a.size := by omega
      go_wp2
      go_ret
      exact ⟨rfl, B⟩
set_option maxRecDepth 100000 in
set_option maxHeartbeats 4000000 in
theorem tears_one1 (a b d mask T : ByteArray) (x y l x' : Int) (t : Nat) (ho : Oq.ok ⟨1, 1, (t : Int), d⟩) (wm : mask.size ≤ maxLen) (h : bigB ⟨a, b, x, y, l⟩ [⟨1, 1, (t : Int), d⟩] mask = false)
    (hz : T.size = b.size) (hd : t + d.size ≤ b.size)
    (p1 : ∀ i, i < b.size → (i < t ∨ t + d.size ≤ i) → byteOr T 0 i = byteOr b 0 i)
    (p2 : ∀ i, i < b.size → t ≤ i → i < t + d.size → ∀ j, j < 8 → mayBit ((byteOr b 0 i).toBitVec.getLsbD j) ((byteOr d 255 (i - t)).toBitVec.getLsbD j) ((byteOr T 0 i).toBitVec.getLsbD j) = true)
    (hT : ∀ W, Calls Try.prog 8 #[flV ⟨a, b, x, y, l⟩, oqV ⟨1, 1, (t : Int), d⟩, .string mask] W fun e w' => e = .returned (.tuple #[.agg #[.string a, .string T, .int .i64 x, .int .i64 x', .int .i64 l], .int .i64 0]) ∧ Below W.heap.size W w') (w : World) :
    Calls Try.prog 3 #[flV ⟨a, b, x, y, l⟩, oqV ⟨1, 1, (t : Int), d⟩, .string mask] w fun e w' => e = .returned (.bool true) ∧ Below w.heap.size w w' := by
  have hbn := bigB_no h
  have ha : a.size ≤ 500 := hbn.2.1
  have hb : b.size ≤ 500 := hbn.2.2.1
  have wa : a.size ≤ maxLen := by unfold maxLen; omega
  have wb : b.size ≤ maxLen := by unfold maxLen; omega
  clear hbn
  have P1 := Lib.hid p1
  have P2 := Lib.hid p2
  have HZ := Lib.hid hz
  have hTs : T.size ≤ 500 := by omega
  have hne : ((b.size : Int) != (T.size : Int)) = false := by simp; omega
  have hne2 : (b.size != T.size) = false := by simp; omega
  clear p1 p2 hz
  have hbig := fun v W => big_any ((⟨a, b, x, y, l⟩ : Fl)) wa wb v [(⟨1, 1, (t : Int), d⟩ : Oq)] (by simp; exact ho.hd) (by simp [maxLen]) mask wm W
  have hB0 : Below w.heap.size w (((w.alloc (.cells (flC ((⟨a, b, x, y, l⟩ : Fl))) 25)).alloc (.cells (opC ((⟨1, 1, (t : Int), d⟩ : Oq))) 27)).alloc (.cells (opC ((⟨1, 1, (t : Int), d⟩ : Oq))) 27)) := (((Below.refl _ w).alloc (Nat.le_refl _) _).alloc (by simp) _).alloc (by simp; omega) _
  have hV := OpsV.one ((w.alloc (.cells (flC ((⟨a, b, x, y, l⟩ : Fl))) 25)).alloc (.cells (opC ((⟨1, 1, (t : Int), d⟩ : Oq))) 27)) 27 ((⟨1, 1, (t : Int), d⟩ : Oq))
  have kF := ((Blk.new w 25 (flC ((⟨a, b, x, y, l⟩ : Fl)))).alloc (.cells (opC ((⟨1, 1, (t : Int), d⟩ : Oq))) 27)).alloc (.cells (opC ((⟨1, 1, (t : Int), d⟩ : Oq))) 27)
  have kO := (Blk.new (w.alloc (.cells (flC ((⟨a, b, x, y, l⟩ : Fl))) 25)) 27 (opC ((⟨1, 1, (t : Int), d⟩ : Oq)))).alloc (.cells (opC ((⟨1, 1, (t : Int), d⟩ : Oq))) 27)
  simp only [World.size_alloc] at hV kO
  go_enter Try.func3, Try.ntmps3
  go_wp2_with fail
  refine (hbig _ _ hV).mono ?_
  rintro e w1 ⟨rfl, b1⟩
  generalize World.alloc (World.alloc (World.alloc w _) _) _ = W0 at *
  replace kF := kF.below b1 kF.lt
  replace kO := kO.below b1 kO.lt
  have B1 := bthen hB0 b1
  clear hV hB0 b1 hbig
  rw [h]
  clear h
  go_wp2_with fail
  refine (shown_any _).mono ?_
  rintro e w2 ⟨rfl, b2⟩
  replace kF := kF.below b2 kF.lt
  replace kO := kO.below b2 kO.lt
  have B2 := bthen B1 b2
  clear b2 B1
  have r_0 := kF.cell 0
  have r_1 := kF.cell 1
  have r_2 := kF.cell 2
  have r_3 := kF.cell 3
  have r_4 := kF.cell 4
  simp at r_0 r_1 r_2 r_3 r_4
  have q_0 := kO.cell 0
  have q_1 := kO.cell 1
  have q_2 := kO.cell 2
  have q_3 := kO.cell 3
  simp at q_0 q_1 q_2 q_3
  go_wp2_with fail
  refine (hT _).mono ?_
  rintro e w3 ⟨rfl, b3⟩
  clear r_0 r_1 r_2 r_3 r_4 q_0 q_1 q_2 q_3
  replace kF := (kF.below b3 kF.lt).alloc (.cells #[.string a, .string T, .int .i64 x, .int .i64 x', .int .i64 l] 25)
  replace kO := (kO.below b3 kO.lt).alloc (.cells #[.string a, .string T, .int .i64 x, .int .i64 x', .int .i64 l] 25)
  have kA := Blk.new w3 25 #[.string a, .string T, .int .i64 x, .int .i64 x', .int .i64 l]
  have B3 := (bthen B2 b3).alloc (bthen B2 b3).size (.cells #[.string a, .string T, .int .i64 x, .int .i64 x', .int .i64 l] 25)
  have r_0 := kF.cell 0
  have r_1 := kF.cell 1
  have r_2 := kF.cell 2
  have r_3 := kF.cell 3
  have r_4 := kF.cell 4
  simp at r_0 r_1 r_2 r_3 r_4
  have q_0 := kO.cell 0
  have q_1 := kO.cell 1
  have q_2 := kO.cell 2
  have q_3 := kO.cell 3
  simp at q_0 q_1 q_2 q_3
  go_wp2_with fail
  generalize World.alloc w3 _ = W3 at *
  have s_0 := kA.cell 0
  have s_1 := kA.cell 1
  have s_2 := kA.cell 2
  have s_3 := kA.cell 3
  have s_4 := kA.cell 4
  simp at s_0 s_1 s_2 s_3 s_4
  have hw10 : IntKind.i64.wrap 0 = 0 := by decide
  go_quiet (fail)
  go_wp2_with fail
  have kO3 : Blk (W3.drewN nq) (w.heap.size + 1) 27 (opC ⟨1, 1, (t : Int), d⟩) := kO
  have B4 : Below w.heap.size w (W3.drewN nq) := bdrew B3 nq
  generalize W3.drewN nq = W4 at *
  clear r_0 r_1 r_2 r_3 r_4 q_0 q_1 q_2 q_3 s_0 s_1 s_2 s_3 s_4 hw10 kF kO kA B3 hne hne2
  go_loopw [11, 12] (fun i m wr => ∃ k : Nat, k ≤ b.size ∧ i = .int .i64 k ∧ Blk wr (w.heap.size + 1) 27 (opC ⟨1, 1, (t : Int), d⟩) ∧ Below w.heap.size w wr) (fun i _ _ => b.size - (intOf i).toNat)
  case atStart => exact ⟨0, by omega, rfl, kO3, B4⟩
  case round =>
    clear kO3 B4
    obtain ⟨k, hk, rfl, kO, B⟩ := hrel
    have q_0 := kO.cell 0
    have q_1 := kO.cell 1
    have q_2 := kO.cell 2
    have q_3 := kO.cell 3
    simp at q_0 q_1 q_2 q_3
    by_cases hlt : k < b.size
    · have hkT : k < T.size := by have := HZ.out; omega
      by_cases hin : t ≤ k ∧ k < t + d.size
      · obtain ⟨h1, h2⟩ := hin
        have d1 : decide ((t : Int) ≤ (k : Int)) = true := by simp; omega
        have d2 : decide ((k : Int) - (t : Int) < (d.size : Int)) = true := by simp; omega
        have g0 : (0 : Int) ≤ (k : Int) - (t : Int) := by omega
        have g1 : (k : Int) - (t : Int) ≤ 1000 := by omega
        have y1 : (b.extract k (k + 1)).size = 1 := by rw [ByteArray.size_extract]; omega
        have y2 : (d.extract (k - t) (k - t + 1)).size = 1 := by rw [ByteArray.size_extract]; omega
        have y3 : (T.extract k (k + 1)).size = 1 := by rw [ByteArray.size_extract]; omega
        have hM := fun W => rMay_yes (b.extract k (k + 1)) (d.extract (k - t) (k - t + 1)) (T.extract k (k + 1)) (by omega) (by omega) (fun i hi j hj => by
          obtain rfl : i = 0 := by omega
          have := P2.out k hlt h1 h2 j hj
          rw [byteOr_ext _ _ _ _ _ (by omega) (by omega), byteOr_ext _ _ _ _ _ (by omega) (by omega), byteOr_ext _ _ _ _ _ (by omega) (by omega), byteOr_any (show k - t + 0 < d.size by omega) 0 255]
          simpa using this) W
        clear y1 y2 y3
        go_wp2_with fail
        have w1 : IntKind.i64.wrap ((k : Int) + 1) = (k : Int) + 1 := IntWalk.i64_in _ (by omega)
        have w2 : IntKind.i64.wrap ((k : Int) - (t : Int)) = (k : Int) - (t : Int) := IntWalk.i64_in _ (by omega)
        have w3' : IntKind.i64.wrap ((k : Int) - (t : Int) + 1) = (k : Int) - (t : Int) + 1 := IntWalk.i64_in _ (by omega)
        have g2 : (0 : Int) ≤ (k : Int) + 1 := by omega
        have g3 : (0 : Int) ≤ (k : Int) - (t : Int) + 1 := by omega
        have n1 : ((k : Int) + 1).toNat = k + 1 := by omega
        have n2 : ((k : Int) - (t : Int)).toNat = k - t := by omega
        have n3 : ((k : Int) - (t : Int) + 1).toNat = k - t + 1 := by omega
        have l1 : k + 1 ≤ b.size := hlt
        have l2 : k + 1 ≤ T.size := hkT
        have l3 : k - t + 1 ≤ d.size := by omega
        have l4 : (k : Int) + 1 ≤ (b.size : Int) := by omega
        have l5 : (k : Int) + 1 ≤ (T.size : Int) := by omega
        have l6 : (k : Int) - (t : Int) + 1 ≤ (d.size : Int) := by omega
        have l7 : (k : Int) ≤ (k : Int) + 1 := by omega
        have l8 : (k : Int) - (t : Int) ≤ (k : Int) - (t : Int) + 1 := by omega
        go_quiet (fail)
        go_wp2_with fail
        replace kO : Blk (wr.drewN nq) (w.heap.size + 1) 27 (opC ⟨1, 1, (t : Int), d⟩) := kO
        replace B := bdrew B nq
        clear q_0 q_1 q_2 q_3
        generalize wr.drewN nq = wq at *
        have q_0 := kO.cell 0
        have q_1 := kO.cell 1
        have q_2 := kO.cell 2
        have q_3 := kO.cell 3
        simp at q_0 q_1 q_2 q_3
        go_quiet ((exact Calls.quiet_of_same ((hM _).mono fun _ _ h => ⟨h.1, h.2.symm⟩)))
        clear w1 w2 w3' n1 n2 n3
        go_wp2_with fail
        go_roundw
        case rel => exact ⟨k + 1, by omega, by go_num, kO, bdrew B _⟩
        case measure => simp [intOf]; omega
      · have hx := P1.out k hlt (by omega)
        rw [byteOr_lt T 0 k hkT, byteOr_lt b 0 k hlt] at hx
        by_cases h1 : t ≤ k
        · have d1 : decide ((t : Int) ≤ (k : Int)) = true := by simp; omega
          have d2 : decide ((k : Int) - (t : Int) < (d.size : Int)) = false := by simp; omega
          have g0 : (0 : Int) ≤ (k : Int) - (t : Int) := by omega
          have g1 : (k : Int) - (t : Int) ≤ 1000 := by omega
          clear hin
          go_wp2_with fail
          go_quiet (fail)
          go_wp2_with fail
          go_quiet (fail)
          go_wp2_with fail
          go_roundw
          case rel => exact ⟨k + 1, by omega, by go_num, kO, bdrew B _⟩
          case measure => simp [intOf]; omega
        · have d1 : decide ((t : Int) ≤ (k : Int)) = false := by simp; omega
          have d1' : decide (t ≤ k) = false := by simp; omega
          clear hin
          go_wp2_with fail
          go_quiet (fail)
          go_wp2_with fail
          go_quiet (fail)
          go_wp2_with fail
          go_roundw
          case rel => exact ⟨k + 1, by omega, by go_num, kO, bdrew B _⟩
          case measure => simp [intOf]; omega
    · obtain rfl : k = b.size := by omega
      go_wp2
      go_ret
      exact ⟨rfl, B⟩
set_option maxRecDepth 100000 in
set_option maxHeartbeats 4000000 in
theorem tears_two0 (a b d mask T : ByteArray) (x y l x' : Int) (t : Int) (ho : Oq.ok ⟨2, 0, t, d⟩) (wm : mask.size ≤ maxLen) (h : bigB ⟨a, b, x, y, l⟩ [⟨2, 0, t, d⟩] mask = false)
    (hz : T.size = a.size)
    (p1 : ∀ i, i < a.size → byteOr T 0 i = byteOr a 0 i ∨ byteOr T 0 i = 255)
    (hT : ∀ W, Calls Try.prog 8 #[flV ⟨a, b, x, y, l⟩, oqV ⟨2, 0, t, d⟩, .string mask] W fun e w' => e = .returned (.tuple #[.agg #[.string T, .string b, .int .i64 x', .int .i64 y, .int .i64 l], .int .i64 0]) ∧ Below W.heap.size W w') (w : World) :
    Calls Try.prog 3 #[flV ⟨a, b, x, y, l⟩, oqV ⟨2, 0, t, d⟩, .string mask] w fun e w' => e = .returned (.bool true) ∧ Below w.heap.size w w' := by
  have hbn := bigB_no h
  have wd := ho.hd
  unfold maxLen at wd
  have wt := ho.ha
  have ha : a.size ≤ 500 := hbn.2.1
  have hb : b.size ≤ 500 := hbn.2.2.1
  have wa : a.size ≤ maxLen := by unfold maxLen; omega
  have wb : b.size ≤ maxLen := by unfold maxLen; omega
  clear hbn
  have P1 := Lib.hid p1
  have HZ := Lib.hid hz
  have hTs : T.size ≤ 500 := by omega
  have hne : ((a.size : Int) != (T.size : Int)) = false := by simp; omega
  have hne2 : (a.size != T.size) = false := by simp; omega
  clear p1 hz
  have hbig := fun v W => big_any ((⟨a, b, x, y, l⟩ : Fl)) wa wb v [(⟨2, 0, t, d⟩ : Oq)] (by simp; exact ho.hd) (by simp [maxLen]) mask wm W
  have hB0 : Below w.heap.size w (((w.alloc (.cells (flC ((⟨a, b, x, y, l⟩ : Fl))) 25)).alloc (.cells (opC ((⟨2, 0, t, d⟩ : Oq))) 27)).alloc (.cells (opC ((⟨2, 0, t, d⟩ : Oq))) 27)) := (((Below.refl _ w).alloc (Nat.le_refl _) _).alloc (by simp) _).alloc (by simp; omega) _
  have hV := OpsV.one ((w.alloc (.cells (flC ((⟨a, b, x, y, l⟩ : Fl))) 25)).alloc (.cells (opC ((⟨2, 0, t, d⟩ : Oq))) 27)) 27 ((⟨2, 0, t, d⟩ : Oq))
  have kF := ((Blk.new w 25 (flC ((⟨a, b, x, y, l⟩ : Fl)))).alloc (.cells (opC ((⟨2, 0, t, d⟩ : Oq))) 27)).alloc (.cells (opC ((⟨2, 0, t, d⟩ : Oq))) 27)
  have kO := (Blk.new (w.alloc (.cells (flC ((⟨a, b, x, y, l⟩ : Fl))) 25)) 27 (opC ((⟨2, 0, t, d⟩ : Oq)))).alloc (.cells (opC ((⟨2, 0, t, d⟩ : Oq))) 27)
  simp only [World.size_alloc] at hV kO
  go_enter Try.func3, Try.ntmps3
  go_wp2_with fail
  refine (hbig _ _ hV).mono ?_
  rintro e w1 ⟨rfl, b1⟩
  generalize World.alloc (World.alloc (World.alloc w _) _) _ = W0 at *
  replace kF := kF.below b1 kF.lt
  replace kO := kO.below b1 kO.lt
  have B1 := bthen hB0 b1
  clear hV hB0 b1 hbig
  rw [h]
  clear h
  go_wp2_with fail
  refine (shown_any _).mono ?_
  rintro e w2 ⟨rfl, b2⟩
  replace kF := kF.below b2 kF.lt
  replace kO := kO.below b2 kO.lt
  have B2 := bthen B1 b2
  clear b2 B1
  have r_0 := kF.cell 0
  have r_1 := kF.cell 1
  have r_2 := kF.cell 2
  have r_3 := kF.cell 3
  have r_4 := kF.cell 4
  simp at r_0 r_1 r_2 r_3 r_4
  have q_0 := kO.cell 0
  have q_1 := kO.cell 1
  have q_2 := kO.cell 2
  have q_3 := kO.cell 3
  simp at q_0 q_1 q_2 q_3
  go_wp2_with fail
  refine (hT _).mono ?_
  rintro e w3 ⟨rfl, b3⟩
  clear r_0 r_1 r_2 r_3 r_4 q_0 q_1 q_2 q_3
  replace kF := (kF.below b3 kF.lt).alloc (.cells #[.string T, .string b, .int .i64 x', .int .i64 y, .int .i64 l] 25)
  replace kO := (kO.below b3 kO.lt).alloc (.cells #[.string T, .string b, .int .i64 x', .int .i64 y, .int .i64 l] 25)
  have kA := Blk.new w3 25 #[.string T, .string b, .int .i64 x', .int .i64 y, .int .i64 l]
  have B3 := (bthen B2 b3).alloc (bthen B2 b3).size (.cells #[.string T, .string b, .int .i64 x', .int .i64 y, .int .i64 l] 25)
  have r_0 := kF.cell 0
  have r_1 := kF.cell 1
  have r_2 := kF.cell 2
  have r_3 := kF.cell 3
  have r_4 := kF.cell 4
  simp at r_0 r_1 r_2 r_3 r_4
  have q_0 := kO.cell 0
  have q_1 := kO.cell 1
  have q_2 := kO.cell 2
  have q_3 := kO.cell 3
  simp at q_0 q_1 q_2 q_3
  go_wp2_with fail
  generalize World.alloc w3 _ = W3 at *
  have s_0 := kA.cell 0
  have s_1 := kA.cell 1
  have s_2 := kA.cell 2
  have s_3 := kA.cell 3
  have s_4 := kA.cell 4
  simp at s_0 s_1 s_2 s_3 s_4
  have hw10 : IntKind.i64.wrap 1 = 1 := by decide
  go_quiet (fail)
  go_wp2_with fail
  have kO3 : Blk (W3.drewN nq) (w.heap.size + 1) 27 (opC ⟨2, 0, t, d⟩) := kO
  have B4 : Below w.heap.size w (W3.drewN nq) := bdrew B3 nq
  generalize W3.drewN nq = W4 at *
  clear r_0 r_1 r_2 r_3 r_4 q_0 q_1 q_2 q_3 s_0 s_1 s_2 s_3 s_4 hw10 kF kO kA B3 hne hne2
  go_loopw [11, 12] (fun i m wr => ∃ k : Nat, k ≤ a.size ∧ i = .int .i64 k ∧ Blk wr (w.heap.size + 1) 27 (opC ⟨2, 0, t, d⟩) ∧ Below w.heap.size w wr) (fun i _ _ => a.size - (intOf i).toNat)
  case atStart => exact ⟨0, by omega, rfl, kO3, B4⟩
  case round =>
    clear kO3 B4
    obtain ⟨k, hk, rfl, kO, B⟩ := hrel
    have q_0 := kO.cell 0
    have q_1 := kO.cell 1
    have q_2 := kO.cell 2
    have q_3 := kO.cell 3
    simp at q_0 q_1 q_2 q_3
    by_cases hlt : k < a.size
    · have hkT : k < T.size := by have := HZ.out; omega
      have hx := P1.out k hlt
      rw [byteOr_lt T 0 k hkT, byteOr_lt a 0 k hlt] at hx
      have hm : (decide (t ≤ (k : Int)) = false ∧ decide (t ≤ (k : Int)) = false) ∨ (decide (t ≤ (k : Int)) = true ∧ decide (wrap64 ((k : Int) - t) < (d.size : Int)) = true) ∨ (decide (t ≤ (k : Int)) = true ∧ decide (wrap64 ((k : Int) - t) < (d.size : Int)) = false) := by
        cases decide (t ≤ (k : Int)) <;> cases decide (wrap64 ((k : Int) - t) < (d.size : Int)) <;> simp
      have hc : (((T[k].toNat : Int) != (a[k].toNat : Int)) = false ∧ (T[k].toNat != a[k].toNat) = false) ∨ (T[k].toNat = 255 ∧ ((255 : Int) != (a[k].toNat : Int)) = true) := by
        by_cases e : T[k] = a[k]
        · left; rw [e]; simp
        · right
          have h255 : T[k] = 255 := by rcases hx with h | h <;> first | exact absurd h e | exact h
          refine ⟨by rw [h255]; rfl, ?_⟩
          rw [bne_iff_ne]
          intro h
          refine e (UInt8.toNat_inj.1 ?_)
          rw [h255]
          have : (255 : UInt8).toNat = 255 := rfl
          omega
      clear hx
      rcases hm with ⟨d1, d2⟩ | ⟨d1, d2⟩ | ⟨d1, d2⟩
      all_goals
        rcases hc with ⟨n1, n2⟩ | ⟨n1, n2⟩
        all_goals
          go_wp2_with fail
          go_quiet (fail)
          go_wp2_with fail
          go_quiet (fail)
          go_wp2_with fail
          go_roundw
          case rel => exact ⟨k + 1, by omega, by go_num, kO, bdrew B _⟩
          case measure => simp [intOf]; omega
    · obtain rfl : k = a.size := by omega
      go_wp2
      go_ret
      exact ⟨rfl, B⟩
set_option maxRecDepth 100000 in
set_option maxHeartbeats 4000000 in
theorem tears_two1 (a b d mask T : ByteArray) (x y l x' : Int) (t : Int) (ho : Oq.ok ⟨2, 1, t, d⟩) (wm : mask.size ≤ maxLen) (h : bigB ⟨a, b, x, y, l⟩ [⟨2, 1, t, d⟩] mask = false)
    (hz : T.size = b.size)
    (p1 : ∀ i, i < b.size → byteOr T 0 i = byteOr b 0 i ∨ byteOr T 0 i = 255)
    (hT : ∀ W, Calls Try.prog 8 #[flV ⟨a, b, x, y, l⟩, oqV ⟨2, 1, t, d⟩, .string mask] W fun e w' => e = .returned (.tuple #[.agg #[.string a, .string T, .int .i64 x, .int .i64 x', .int .i64 l], .int .i64 0]) ∧ Below W.heap.size W w') (w : World) :
    Calls Try.prog 3 #[flV ⟨a, b, x, y, l⟩, oqV ⟨2, 1, t, d⟩, .string mask] w fun e w' => e = .returned (.bool true) ∧ Below w.heap.size w w' := by
  have hbn := bigB_no h
  have wd := ho.hd
  unfold maxLen at wd
  have wt := ho.ha
  have ha : a.size ≤ 500 := hbn.2.1
  have hb : b.size ≤ 500 := hbn.2.2.1
  have wa : a.size ≤ maxLen := by unfold maxLen; omega
  have wb : b.size ≤ maxLen := by unfold maxLen; omega
  clear hbn
  have P1 := Lib.hid p1
  have HZ := Lib.hid hz
  have hTs : T.size ≤ 500 := by omega
  have hne : ((b.size : Int) != (T.size : Int)) = false := by simp; omega
  have hne2 : (b.size != T.size) = false := by simp; omega
  clear p1 hz
  have hbig := fun v W => big_any ((⟨a, b, x, y, l⟩ : Fl)) wa wb v [(⟨2, 1, t, d⟩ : Oq)] (by simp; exact ho.hd) (by simp [maxLen]) mask wm W
  have hB0 : Below w.heap.size w (((w.alloc (.cells (flC ((⟨a, b, x, y, l⟩ : Fl))) 25)).alloc (.cells (opC ((⟨2, 1, t, d⟩ : Oq))) 27)).alloc (.cells (opC ((⟨2, 1, t, d⟩ : Oq))) 27)) := (((Below.refl _ w).alloc (Nat.le_refl _) _).alloc (by simp) _).alloc (by simp; omega) _
  have hV := OpsV.one ((w.alloc (.cells (flC ((⟨a, b, x, y, l⟩ : Fl))) 25)).alloc (.cells (opC ((⟨2, 1, t, d⟩ : Oq))) 27)) 27 ((⟨2, 1, t, d⟩ : Oq))
  have kF := ((Blk.new w 25 (flC ((⟨a, b, x, y, l⟩ : Fl)))).alloc (.cells (opC ((⟨2, 1, t, d⟩ : Oq))) 27)).alloc (.cells (opC ((⟨2, 1, t, d⟩ : Oq))) 27)
  have kO := (Blk.new (w.alloc (.cells (flC ((⟨a, b, x, y, l⟩ : Fl))) 25)) 27 (opC ((⟨2, 1, t, d⟩ : Oq)))).alloc (.cells (opC ((⟨2, 1, t, d⟩ : Oq))) 27)
  simp only [World.size_alloc] at hV kO
  go_enter Try.func3, Try.ntmps3
  go_wp2_with fail
  refine (hbig _ _ hV).mono ?_
  rintro e w1 ⟨rfl, b1⟩
  generalize World.alloc (World.alloc (World.alloc w _) _) _ = W0 at *
  replace kF := kF.below b1 kF.lt
  replace kO := kO.below b1 kO.lt
  have B1 := bthen hB0 b1
  clear hV hB0 b1 hbig
  rw [h]
  clear h
  go_wp2_with fail
  refine (shown_any _).mono ?_
  rintro e w2 ⟨rfl, b2⟩
  replace kF := kF.below b2 kF.lt
  replace kO := kO.below b2 kO.lt
  have B2 := bthen B1 b2
  clear b2 B1
  have r_0 := kF.cell 0
  have r_1 := kF.cell 1
  have r_2 := kF.cell 2
  have r_3 := kF.cell 3
  have r_4 := kF.cell 4
  simp at r_0 r_1 r_2 r_3 r_4
  have q_0 := kO.cell 0
  have q_1 := kO.cell 1
  have q_2 := kO.cell 2
  have q_3 := kO.cell 3
  simp at q_0 q_1 q_2 q_3
  go_wp2_with fail
  refine (hT _).mono ?_
  rintro e w3 ⟨rfl, b3⟩
  clear r_0 r_1 r_2 r_3 r_4 q_0 q_1 q_2 q_3
  replace kF := (kF.below b3 kF.lt).alloc (.cells #[.string a, .string T, .int .i64 x, .int .i64 x', .int .i64 l] 25)
  replace kO := (kO.below b3 kO.lt).alloc (.cells #[.string a, .string T, .int .i64 x, .int .i64 x', .int .i64 l] 25)
  have kA := Blk.new w3 25 #[.string a, .string T, .int .i64 x, .int .i64 x', .int .i64 l]
  have B3 := (bthen B2 b3).alloc (bthen B2 b3).size (.cells #[.string a, .string T, .int .i64 x, .int .i64 x', .int .i64 l] 25)
  have r_0 := kF.cell 0
  have r_1 := kF.cell 1
  have r_2 := kF.cell 2
  have r_3 := kF.cell 3
  have r_4 := kF.cell 4
  simp at r_0 r_1 r_2 r_3 r_4
  have q_0 := kO.cell 0
  have q_1 := kO.cell 1
  have q_2 := kO.cell 2
  have q_3 := kO.cell 3
  simp at q_0 q_1 q_2 q_3
  go_wp2_with fail
  generalize World.alloc w3 _ = W3 at *
  have s_0 := kA.cell 0
  have s_1 := kA.cell 1
  have s_2 := kA.cell 2
  have s_3 := kA.cell 3
  have s_4 := kA.cell 4
  simp at s_0 s_1 s_2 s_3 s_4
  have hw10 : IntKind.i64.wrap 0 = 0 := by decide
  go_quiet (fail)
  go_wp2_with fail
  have kO3 : Blk (W3.drewN nq) (w.heap.size + 1) 27 (opC ⟨2, 1, t, d⟩) := kO
  have B4 : Below w.heap.size w (W3.drewN nq) := bdrew B3 nq
  generalize W3.drewN nq = W4 at *
  clear r_0 r_1 r_2 r_3 r_4 q_0 q_1 q_2 q_3 s_0 s_1 s_2 s_3 s_4 hw10 kF kO kA B3 hne hne2
  go_loopw [11, 12] (fun i m wr => ∃ k : Nat, k ≤ b.size ∧ i = .int .i64 k ∧ Blk wr (w.heap.size + 1) 27 (opC ⟨2, 1, t, d⟩) ∧ Below w.heap.size w wr) (fun i _ _ => b.size - (intOf i).toNat)
  case atStart => exact ⟨0, by omega, rfl, kO3, B4⟩
  case round =>
    clear kO3 B4
    obtain ⟨k, hk, rfl, kO, B⟩ := hrel
    have q_0 := kO.cell 0
    have q_1 := kO.cell 1
    have q_2 := kO.cell 2
    have q_3 := kO.cell 3
    simp at q_0 q_1 q_2 q_3
    by_cases hlt : k < b.size
    · have hkT : k < T.size := by have := HZ.out; omega
      have hx := P1.out k hlt
      rw [byteOr_lt T 0 k hkT, byteOr_lt b 0 k hlt] at hx
      have hm : (decide (t ≤ (k : Int)) = false ∧ decide (t ≤ (k : Int)) = false) ∨ (decide (t ≤ (k : Int)) = true ∧ decide (wrap64 ((k : Int) - t) < (d.size : Int)) = true) ∨ (decide (t ≤ (k : Int)) = true ∧ decide (wrap64 ((k : Int) - t) < (d.size : Int)) = false) := by
        cases decide (t ≤ (k : Int)) <;> cases decide (wrap64 ((k : Int) - t) < (d.size : Int)) <;> simp
      have hc : (((T[k].toNat : Int) != (b[k].toNat : Int)) = false ∧ (T[k].toNat != b[k].toNat) = false) ∨ (T[k].toNat = 255 ∧ ((255 : Int) != (b[k].toNat : Int)) = true) := by
        by_cases e : T[k] = b[k]
        · left; rw [e]; simp
        · right
          have h255 : T[k] = 255 := by rcases hx with h | h <;> first | exact absurd h e | exact h
          refine ⟨by rw [h255]; rfl, ?_⟩
          rw [bne_iff_ne]
          intro h
          refine e (UInt8.toNat_inj.1 ?_)
          rw [h255]
          have : (255 : UInt8).toNat = 255 := rfl
          omega
      clear hx
      rcases hm with ⟨d1, d2⟩ | ⟨d1, d2⟩ | ⟨d1, d2⟩
      all_goals
        rcases hc with ⟨n1, n2⟩ | ⟨n1, n2⟩
        all_goals
          go_wp2_with fail
          go_quiet (fail)
          go_wp2_with fail
          go_quiet (fail)
          go_wp2_with fail
          go_roundw
          case rel => exact ⟨k + 1, by omega, by go_num, kO, bdrew B _⟩
          case measure => simp [intOf]; omega
    · obtain rfl : k = b.size := by omega
      go_wp2
      go_ret
      exact ⟨rfl, B⟩
end Go.Proofs.Ythagnnaemcknfaa
