/- power.Tear: the walk. -/
import Derived.Test.YthagnnaemcknfaaTear
import Derived.Test.YthagnnaemcknfaaCalmTail
import Derived.Deep.QuietTactic
import Derived.BigQuiet
namespace Go.Proofs.Ythagnnaemcknfaa
open Go.RowKit
set_option linter.unusedVariables false
set_option linter.unusedSimpArgs false

set_option maxHeartbeats 2000000 in
theorem Tear_one0 (a b d mask : ByteArray) (x y l : Int) (a' b' X : ByteArray) (x' y' l' : Int) (t : Nat) (hX : X = midB a a' mask t (t + d.size)) (hz : t + d.size ≤ a'.size)
    (ha : a.size ≤ 500) (hm : mask.size ≤ 1000) (hd : t + d.size ≤ a.size)
    (hDo : ∀ W, Calls Try.prog 10 #[.agg #[.string a, .string b, .int .i64 x, .int .i64 y, .int .i64 l], .agg #[.int .i64 1, .int .i64 0, .int .i64 (t : Int), .string d]] W fun e w' =>
      e = .returned (.tuple #[.agg #[.string a', .string b', .int .i64 x', .int .i64 y', .int .i64 l'], .int .i64 0]) ∧ Below W.heap.size W w') (w : World) :
    Calls Try.prog 8 #[.agg #[.string a, .string b, .int .i64 x, .int .i64 y, .int .i64 l], .agg #[.int .i64 1, .int .i64 0, .int .i64 (t : Int), .string d], .string mask] w fun e w' =>
      e = .returned (.tuple #[.agg #[.string X, .string b', .int .i64 x', .int .i64 y', .int .i64 l'], .int .i64 0]) ∧ Below w.heap.size w w' := by
  unfold midB at hX
  have HX := Lib.hid hX
  clear hX
  have kF := Blk.new w 25 #[.string a, .string b, .int .i64 x, .int .i64 y, .int .i64 l]
  go_enter Try.func8, Try.ntmps8
  go_wp2_with (with_reducible refine (hDo _).mono ?_)
  rintro e w1 ⟨rfl, b1⟩
  have kF1 := (kF.alloc (.cells #[.int .i64 1, .int .i64 0, .int .i64 (t : Int), .string d] 27)).alloc (.cells #[.string ⟨#[]⟩, .string ⟨#[]⟩, .int .i64 0, .int .i64 0, .int .i64 0] 25)
  have kO1 := (Blk.new (w.alloc (.cells #[.string a, .string b, .int .i64 x, .int .i64 y, .int .i64 l] 25)) 27 #[.int .i64 1, .int .i64 0, .int .i64 (t : Int), .string d]).alloc (.cells #[.string ⟨#[]⟩, .string ⟨#[]⟩, .int .i64 0, .int .i64 0, .int .i64 0] 25)
  have kZ1 := Blk.new ((w.alloc (.cells #[.string a, .string b, .int .i64 x, .int .i64 y, .int .i64 l] 25)).alloc (.cells #[.int .i64 1, .int .i64 0, .int .i64 (t : Int), .string d] 27)) 25 #[.string ⟨#[]⟩, .string ⟨#[]⟩, .int .i64 0, .int .i64 0, .int .i64 0]
  have B1 : Below w.heap.size w (((w.alloc (.cells #[.string a, .string b, .int .i64 x, .int .i64 y, .int .i64 l] 25)).alloc (.cells #[.int .i64 1, .int .i64 0, .int .i64 (t : Int), .string d] 27)).alloc (.cells #[.string ⟨#[]⟩, .string ⟨#[]⟩, .int .i64 0, .int .i64 0, .int .i64 0] 25)) :=
    (((Below.refl _ w).alloc (Nat.le_refl _) _).alloc (by simp) _).alloc (by simp; omega) _
  rw [World.size_alloc] at kO1
  rw [World.size_alloc, World.size_alloc] at kZ1
  generalize World.alloc (World.alloc (World.alloc w _) _) _ = W1 at *
  have kF2 := (kF1.below b1 kF1.lt).alloc (.cells #[.string a', .string b', .int .i64 x', .int .i64 y', .int .i64 l'] 25)
  have kO2 := (kO1.below b1 kO1.lt).alloc (.cells #[.string a', .string b', .int .i64 x', .int .i64 y', .int .i64 l'] 25)
  have kZ2 := (kZ1.below b1 kZ1.lt).alloc (.cells #[.string a', .string b', .int .i64 x', .int .i64 y', .int .i64 l'] 25)
  have kN2 := Blk.new w1 25 #[.string a', .string b', .int .i64 x', .int .i64 y', .int .i64 l']
  have B2 := (bthen B1 b1).alloc (bthen B1 b1).size (.cells #[.string a', .string b', .int .i64 x', .int .i64 y', .int .i64 l'] 25)
  have hz1 := b1.size
  have hz0 := kZ1.lt
  have hne : w.heap.size + 1 + 1 < w1.heap.size := by omega
  go_wp2_with fail
  generalize World.alloc w1 _ = W2 at *
  clear kF kF1 kO1 kZ1 B1 b1 hz1 hz0
  have f0 := kF2.cell 0
  have f1 := kF2.cell 1
  have o0 := kO2.cell 0
  have o1 := kO2.cell 1
  have o2 := kO2.cell 2
  have o3 := kO2.cell 3
  have n0 := kN2.cell 0
  have n1 := kN2.cell 1
  simp at f0 f1 o0 o1 o2 o3 n0 n1
  go_quiet (fail)
  generalize nq = q1 at *
  go_wp2_with fail
  have hw1 : IntKind.i64.wrap ((t : Int) + (d.size : Int)) = (t : Int) + (d.size : Int) := IntWalk.i64_in _ (by omega)
  have hw2 : (0 : Int) ≤ (t : Int) + (d.size : Int) := by omega
  have hw3 : ((t : Int) + (d.size : Int)).toNat = t + d.size := by omega
  have hw4 : t + d.size - t = d.size := by omega
  go_quiet (fail)
  go_wp2_with fail
  have kO3 : Blk (W2.drewN (q1 + nq)) (w.heap.size + 1) 27 #[.int .i64 1, .int .i64 0, .int .i64 (t : Int), .string d] := kO2
  have kZ3 : Blk (W2.drewN (q1 + nq)) (w.heap.size + 1 + 1) 25 #[.string ⟨#[]⟩, .string ⟨#[]⟩, .int .i64 0, .int .i64 0, .int .i64 0] := kZ2
  have kN3 : Blk (W2.drewN (q1 + nq)) w1.heap.size 25 #[.string a', .string b', .int .i64 x', .int .i64 y', .int .i64 l'] := kN2
  have B3 : Below w.heap.size w (W2.drewN (q1 + nq)) := bdrew B2 _
  clear kF2 kO2 kZ2 kN2 B2 f0 f1 o0 o1 o2 o3 n0 n1
  clear hw1 hw2 hw3 hw4
  generalize W2.drewN (q1 + nq) = W3 at *
  have z1 : (a.extract 0 t).size = t := by rw [ByteArray.size_extract]; omega
  have z2 : (a.extract t (t + d.size)).size = t + d.size - t := by rw [ByteArray.size_extract]; omega
  have z3 : (a'.extract t (t + d.size)).size ≤ 500 := by first | (rw [ByteArray.size_extract]; omega) | omega
  have z4 : (a.extract (t + d.size) a.size).size = a.size - (t + d.size) := by rw [ByteArray.size_extract]; omega
  have z5 := tornB_size (a.extract t (t + d.size)) (a'.extract t (t + d.size)) (mask)
  have hT : ∀ W, Calls Try.prog 15 #[.string (a.extract t (t + d.size)), .string (a'.extract t (t + d.size)), .string (mask)] W fun e w' => e = .returned (.string (tornB (a.extract t (t + d.size)) (a'.extract t (t + d.size)) (mask))) ∧ Below W.heap.size W w' := fun W => Torn_any _ _ _ (by omega) (by unfold maxLen; omega) (by unfold maxLen; omega) W
  have c1 : ∀ n : CalmW W3.heap.size W3, n.val.cell? ⟨w.heap.size + 1, 1, none⟩ = some (.int .i64 0) := fun n => ((kO3.below n.below kO3.lt).cell 1).trans (by simp)
  refine wp_region_calm_tail W3.heap.size 22 (by kernel_rfl) (by kernel_rfl) ?_
  simp only [List.take_succ_cons, List.take_zero, List.drop_succ_cons, List.drop_zero]
  repeat (go_big_quiet_step ((with_reducible refine calm_of (Nat.le_refl _) (hT _))))
  have hX := HX.out
  rw [← hX]
  clear hX
  refine wpQuiet_nil ?_
  intro W4 hw'
  obtain ⟨⟨W5, b4⟩, hw''⟩ := hw'
  obtain rfl : W4 = W5 := hw''
  have kN4 := kN3.below b4 kN3.lt
  have kZ4 := kZ3.below b4 kZ3.lt
  have B4 := bthen B3 b4
  have n0 := kN4.cell 0
  have n1 := kN4.cell 1
  have n2 := kN4.cell 2
  have n3 := kN4.cell 3
  have n4 := kN4.cell 4
  have m0 := kN4.frozen 0
  simp at n0 n1 n2 n3 n4
  clear z1 z2 z3 z4 z5 hT c1 b4
  have r0 := kZ4.cell 0
  have r1 := kZ4.cell 1
  have r2 := kZ4.cell 2
  have r3 := kZ4.cell 3
  have r4 := kZ4.cell 4
  have f0 := kZ4.frozen 0
  have f1 := kZ4.frozen 1
  have f2 := kZ4.frozen 2
  have f3 := kZ4.frozen 3
  have f4 := kZ4.frozen 4
  simp at r0 r1 r2 r3 r4
  go_wp2
  have B5 := B4.setCell (p := ⟨w1.heap.size, 0, none⟩) (by show w.heap.size ≤ w1.heap.size; omega) (.string X)
  have kZ5 := kZ4.other ⟨w1.heap.size, 0, none⟩ (by show w.heap.size + 1 + 1 ≠ w1.heap.size; omega) (.string X)
  obtain ⟨g0, B6⟩ := five_stores (v0 := .string X) (v1 := .string b') (v2 := .int .i64 x') (v3 := .int .i64 y') (v4 := .int .i64 l') kZ5 B5 (by omega)
  have q0 := g0.cell 0
  have q1 := g0.cell 1
  have q2 := g0.cell 2
  have q3 := g0.cell 3
  have q4 := g0.cell 4
  simp only [List.getElem?_toArray, List.getElem?_cons_zero, List.getElem?_cons_succ] at q0 q1 q2 q3 q4
  generalize World.setCell (World.setCell (World.setCell (World.setCell (World.setCell (World.setCell W4 _ _) _ _) _ _) _ _) _ _) _ _ = W6 at *
  exact bodyPost_ret (v := .tuple #[.agg #[.string X, .string b', .int .i64 x', .int .i64 y', .int .i64 l'], .int .i64 0]) (by simp [results, Try.results8, go_sem, q0, q1, q2, q3, q4]) rfl ⟨rfl, B6⟩
set_option maxHeartbeats 2000000 in
theorem Tear_one1 (a b d mask : ByteArray) (x y l : Int) (a' b' X : ByteArray) (x' y' l' : Int) (t : Nat) (hX : X = midB b b' mask t (t + d.size)) (hz : t + d.size ≤ b'.size)
    (ha : b.size ≤ 500) (hm : mask.size ≤ 1000) (hd : t + d.size ≤ b.size)
    (hDo : ∀ W, Calls Try.prog 10 #[.agg #[.string a, .string b, .int .i64 x, .int .i64 y, .int .i64 l], .agg #[.int .i64 1, .int .i64 1, .int .i64 (t : Int), .string d]] W fun e w' =>
      e = .returned (.tuple #[.agg #[.string a', .string b', .int .i64 x', .int .i64 y', .int .i64 l'], .int .i64 0]) ∧ Below W.heap.size W w') (w : World) :
    Calls Try.prog 8 #[.agg #[.string a, .string b, .int .i64 x, .int .i64 y, .int .i64 l], .agg #[.int .i64 1, .int .i64 1, .int .i64 (t : Int), .string d], .string mask] w fun e w' =>
      e = .returned (.tuple #[.agg #[.string a', .string X, .int .i64 x', .int .i64 y', .int .i64 l'], .int .i64 0]) ∧ Below w.heap.size w w' := by
  unfold midB at hX
  have HX := Lib.hid hX
  clear hX
  have kF := Blk.new w 25 #[.string a, .string b, .int .i64 x, .int .i64 y, .int .i64 l]
  go_enter Try.func8, Try.ntmps8
  go_wp2_with (with_reducible refine (hDo _).mono ?_)
  rintro e w1 ⟨rfl, b1⟩
  have kF1 := (kF.alloc (.cells #[.int .i64 1, .int .i64 1, .int .i64 (t : Int), .string d] 27)).alloc (.cells #[.string ⟨#[]⟩, .string ⟨#[]⟩, .int .i64 0, .int .i64 0, .int .i64 0] 25)
  have kO1 := (Blk.new (w.alloc (.cells #[.string a, .string b, .int .i64 x, .int .i64 y, .int .i64 l] 25)) 27 #[.int .i64 1, .int .i64 1, .int .i64 (t : Int), .string d]).alloc (.cells #[.string ⟨#[]⟩, .string ⟨#[]⟩, .int .i64 0, .int .i64 0, .int .i64 0] 25)
  have kZ1 := Blk.new ((w.alloc (.cells #[.string a, .string b, .int .i64 x, .int .i64 y, .int .i64 l] 25)).alloc (.cells #[.int .i64 1, .int .i64 1, .int .i64 (t : Int), .string d] 27)) 25 #[.string ⟨#[]⟩, .string ⟨#[]⟩, .int .i64 0, .int .i64 0, .int .i64 0]
  have B1 : Below w.heap.size w (((w.alloc (.cells #[.string a, .string b, .int .i64 x, .int .i64 y, .int .i64 l] 25)).alloc (.cells #[.int .i64 1, .int .i64 1, .int .i64 (t : Int), .string d] 27)).alloc (.cells #[.string ⟨#[]⟩, .string ⟨#[]⟩, .int .i64 0, .int .i64 0, .int .i64 0] 25)) :=
    (((Below.refl _ w).alloc (Nat.le_refl _) _).alloc (by simp) _).alloc (by simp; omega) _
  rw [World.size_alloc] at kO1
  rw [World.size_alloc, World.size_alloc] at kZ1
  generalize World.alloc (World.alloc (World.alloc w _) _) _ = W1 at *
  have kF2 := (kF1.below b1 kF1.lt).alloc (.cells #[.string a', .string b', .int .i64 x', .int .i64 y', .int .i64 l'] 25)
  have kO2 := (kO1.below b1 kO1.lt).alloc (.cells #[.string a', .string b', .int .i64 x', .int .i64 y', .int .i64 l'] 25)
  have kZ2 := (kZ1.below b1 kZ1.lt).alloc (.cells #[.string a', .string b', .int .i64 x', .int .i64 y', .int .i64 l'] 25)
  have kN2 := Blk.new w1 25 #[.string a', .string b', .int .i64 x', .int .i64 y', .int .i64 l']
  have B2 := (bthen B1 b1).alloc (bthen B1 b1).size (.cells #[.string a', .string b', .int .i64 x', .int .i64 y', .int .i64 l'] 25)
  have hz1 := b1.size
  have hz0 := kZ1.lt
  have hne : w.heap.size + 1 + 1 < w1.heap.size := by omega
  go_wp2_with fail
  generalize World.alloc w1 _ = W2 at *
  clear kF kF1 kO1 kZ1 B1 b1 hz1 hz0
  have f0 := kF2.cell 0
  have f1 := kF2.cell 1
  have o0 := kO2.cell 0
  have o1 := kO2.cell 1
  have o2 := kO2.cell 2
  have o3 := kO2.cell 3
  have n0 := kN2.cell 0
  have n1 := kN2.cell 1
  simp at f0 f1 o0 o1 o2 o3 n0 n1
  go_quiet (fail)
  generalize nq = q1 at *
  go_wp2_with fail
  have hw1 : IntKind.i64.wrap ((t : Int) + (d.size : Int)) = (t : Int) + (d.size : Int) := IntWalk.i64_in _ (by omega)
  have hw2 : (0 : Int) ≤ (t : Int) + (d.size : Int) := by omega
  have hw3 : ((t : Int) + (d.size : Int)).toNat = t + d.size := by omega
  have hw4 : t + d.size - t = d.size := by omega
  go_quiet (fail)
  go_wp2_with fail
  have kO3 : Blk (W2.drewN (q1 + nq)) (w.heap.size + 1) 27 #[.int .i64 1, .int .i64 1, .int .i64 (t : Int), .string d] := kO2
  have kZ3 : Blk (W2.drewN (q1 + nq)) (w.heap.size + 1 + 1) 25 #[.string ⟨#[]⟩, .string ⟨#[]⟩, .int .i64 0, .int .i64 0, .int .i64 0] := kZ2
  have kN3 : Blk (W2.drewN (q1 + nq)) w1.heap.size 25 #[.string a', .string b', .int .i64 x', .int .i64 y', .int .i64 l'] := kN2
  have B3 : Below w.heap.size w (W2.drewN (q1 + nq)) := bdrew B2 _
  clear kF2 kO2 kZ2 kN2 B2 f0 f1 o0 o1 o2 o3 n0 n1
  clear hw1 hw2 hw3 hw4
  generalize W2.drewN (q1 + nq) = W3 at *
  have z1 : (b.extract 0 t).size = t := by rw [ByteArray.size_extract]; omega
  have z2 : (b.extract t (t + d.size)).size = t + d.size - t := by rw [ByteArray.size_extract]; omega
  have z3 : (b'.extract t (t + d.size)).size ≤ 500 := by first | (rw [ByteArray.size_extract]; omega) | omega
  have z4 : (b.extract (t + d.size) b.size).size = b.size - (t + d.size) := by rw [ByteArray.size_extract]; omega
  have z5 := tornB_size (b.extract t (t + d.size)) (b'.extract t (t + d.size)) (mask)
  have hT : ∀ W, Calls Try.prog 15 #[.string (b.extract t (t + d.size)), .string (b'.extract t (t + d.size)), .string (mask)] W fun e w' => e = .returned (.string (tornB (b.extract t (t + d.size)) (b'.extract t (t + d.size)) (mask))) ∧ Below W.heap.size W w' := fun W => Torn_any _ _ _ (by omega) (by unfold maxLen; omega) (by unfold maxLen; omega) W
  have c1 : ∀ n : CalmW W3.heap.size W3, n.val.cell? ⟨w.heap.size + 1, 1, none⟩ = some (.int .i64 1) := fun n => ((kO3.below n.below kO3.lt).cell 1).trans (by simp)
  refine wp_region_calm_tail W3.heap.size 22 (by kernel_rfl) (by kernel_rfl) ?_
  simp only [List.take_succ_cons, List.take_zero, List.drop_succ_cons, List.drop_zero]
  repeat (go_big_quiet_step ((with_reducible refine calm_of (Nat.le_refl _) (hT _))))
  have hX := HX.out
  rw [← hX]
  clear hX
  refine wpQuiet_nil ?_
  intro W4 hw'
  obtain ⟨⟨W5, b4⟩, hw''⟩ := hw'
  obtain rfl : W4 = W5 := hw''
  have kN4 := kN3.below b4 kN3.lt
  have kZ4 := kZ3.below b4 kZ3.lt
  have B4 := bthen B3 b4
  have n0 := kN4.cell 0
  have n1 := kN4.cell 1
  have n2 := kN4.cell 2
  have n3 := kN4.cell 3
  have n4 := kN4.cell 4
  have m0 := kN4.frozen 1
  simp at n0 n1 n2 n3 n4
  clear z1 z2 z3 z4 z5 hT c1 b4
  have r0 := kZ4.cell 0
  have r1 := kZ4.cell 1
  have r2 := kZ4.cell 2
  have r3 := kZ4.cell 3
  have r4 := kZ4.cell 4
  have f0 := kZ4.frozen 0
  have f1 := kZ4.frozen 1
  have f2 := kZ4.frozen 2
  have f3 := kZ4.frozen 3
  have f4 := kZ4.frozen 4
  simp at r0 r1 r2 r3 r4
  go_wp2
  have B5 := B4.setCell (p := ⟨w1.heap.size, 1, none⟩) (by show w.heap.size ≤ w1.heap.size; omega) (.string X)
  have kZ5 := kZ4.other ⟨w1.heap.size, 1, none⟩ (by show w.heap.size + 1 + 1 ≠ w1.heap.size; omega) (.string X)
  obtain ⟨g0, B6⟩ := five_stores (v0 := .string a') (v1 := .string X) (v2 := .int .i64 x') (v3 := .int .i64 y') (v4 := .int .i64 l') kZ5 B5 (by omega)
  have q0 := g0.cell 0
  have q1 := g0.cell 1
  have q2 := g0.cell 2
  have q3 := g0.cell 3
  have q4 := g0.cell 4
  simp only [List.getElem?_toArray, List.getElem?_cons_zero, List.getElem?_cons_succ] at q0 q1 q2 q3 q4
  generalize World.setCell (World.setCell (World.setCell (World.setCell (World.setCell (World.setCell W4 _ _) _ _) _ _) _ _) _ _) _ _ = W6 at *
  exact bodyPost_ret (v := .tuple #[.agg #[.string a', .string X, .int .i64 x', .int .i64 y', .int .i64 l'], .int .i64 0]) (by simp [results, Try.results8, go_sem, q0, q1, q2, q3, q4]) rfl ⟨rfl, B6⟩
set_option maxHeartbeats 2000000 in
theorem Tear_two0 (a b d mask : ByteArray) (x y l : Int) (a' b' X : ByteArray) (x' y' l' t : Int) (hX : X = midB a' a (invB mask a.size) 0 a.size) (hz : a.size ≤ a'.size) (hz2 : a'.size ≤ 500)
    (hm : mask.size ≤ 1000) (hdz : d.size ≤ maxLen)
    (hDo : ∀ W, Calls Try.prog 10 #[.agg #[.string a, .string b, .int .i64 x, .int .i64 y, .int .i64 l], .agg #[.int .i64 2, .int .i64 0, .int .i64 t, .string d]] W fun e w' =>
      e = .returned (.tuple #[.agg #[.string a', .string b', .int .i64 x', .int .i64 y', .int .i64 l'], .int .i64 0]) ∧ Below W.heap.size W w') (w : World) :
    Calls Try.prog 8 #[.agg #[.string a, .string b, .int .i64 x, .int .i64 y, .int .i64 l], .agg #[.int .i64 2, .int .i64 0, .int .i64 t, .string d], .string mask] w fun e w' =>
      e = .returned (.tuple #[.agg #[.string X, .string b', .int .i64 x', .int .i64 y', .int .i64 l'], .int .i64 0]) ∧ Below w.heap.size w w' := by
  have hOdd := fun W => Odd_any mask hm a.size (by omega) W
  have hol := oddR_length mask a.size a.size
  have hoz : (⟨(oddR mask a.size a.size).toArray⟩ : ByteArray).size = a.size := by show (oddR mask a.size a.size).toArray.size = _; simp [hol]
  have hInv := fun W => Invert_any ⟨(oddR mask a.size a.size).toArray⟩ (by rw [hoz]; omega) W
  rw [hoz] at hInv
  obtain ⟨M, hM⟩ : ∃ M, M = invB mask a.size := ⟨_, rfl⟩
  have hInv2 : ∀ W, Calls Try.prog 13 #[.string ⟨(oddR mask a.size a.size).toArray⟩] W fun e w' => e = .returned (.string M) ∧ Below W.heap.size W w' := by rw [hM]; exact hInv
  have hMz : M.size ≤ 1000 := by
    rw [hM]
    show (invR (oddR mask a.size a.size) a.size).toArray.size ≤ 1000
    rw [List.size_toArray, invR_length, hol]
    omega
  rw [← hM] at hX
  clear hInv hol hoz hM
  generalize (⟨(oddR mask a.size a.size).toArray⟩ : ByteArray) = O at *
  unfold maxLen at hdz
  replace hX : X = tornB (a'.extract 0 a.size) a M ++ a'.extract a.size a'.size := by
    rw [hX]; unfold midB; rw [show a'.extract 0 0 = ByteArray.empty by simp, ByteArray.empty_append, show a.extract 0 a.size = a by simp]
  have HX := Lib.hid hX
  clear hX
  have kF := Blk.new w 25 #[.string a, .string b, .int .i64 x, .int .i64 y, .int .i64 l]
  go_enter Try.func8, Try.ntmps8
  go_wp2_with (with_reducible refine (hDo _).mono ?_)
  rintro e w1 ⟨rfl, b1⟩
  have kF1 := (kF.alloc (.cells #[.int .i64 2, .int .i64 0, .int .i64 t, .string d] 27)).alloc (.cells #[.string ⟨#[]⟩, .string ⟨#[]⟩, .int .i64 0, .int .i64 0, .int .i64 0] 25)
  have kO1 := (Blk.new (w.alloc (.cells #[.string a, .string b, .int .i64 x, .int .i64 y, .int .i64 l] 25)) 27 #[.int .i64 2, .int .i64 0, .int .i64 t, .string d]).alloc (.cells #[.string ⟨#[]⟩, .string ⟨#[]⟩, .int .i64 0, .int .i64 0, .int .i64 0] 25)
  have kZ1 := Blk.new ((w.alloc (.cells #[.string a, .string b, .int .i64 x, .int .i64 y, .int .i64 l] 25)).alloc (.cells #[.int .i64 2, .int .i64 0, .int .i64 t, .string d] 27)) 25 #[.string ⟨#[]⟩, .string ⟨#[]⟩, .int .i64 0, .int .i64 0, .int .i64 0]
  have B1 : Below w.heap.size w (((w.alloc (.cells #[.string a, .string b, .int .i64 x, .int .i64 y, .int .i64 l] 25)).alloc (.cells #[.int .i64 2, .int .i64 0, .int .i64 t, .string d] 27)).alloc (.cells #[.string ⟨#[]⟩, .string ⟨#[]⟩, .int .i64 0, .int .i64 0, .int .i64 0] 25)) :=
    (((Below.refl _ w).alloc (Nat.le_refl _) _).alloc (by simp) _).alloc (by simp; omega) _
  rw [World.size_alloc] at kO1
  rw [World.size_alloc, World.size_alloc] at kZ1
  generalize World.alloc (World.alloc (World.alloc w _) _) _ = W1 at *
  have kF2 := (kF1.below b1 kF1.lt).alloc (.cells #[.string a', .string b', .int .i64 x', .int .i64 y', .int .i64 l'] 25)
  have kO2 := (kO1.below b1 kO1.lt).alloc (.cells #[.string a', .string b', .int .i64 x', .int .i64 y', .int .i64 l'] 25)
  have kZ2 := (kZ1.below b1 kZ1.lt).alloc (.cells #[.string a', .string b', .int .i64 x', .int .i64 y', .int .i64 l'] 25)
  have kN2 := Blk.new w1 25 #[.string a', .string b', .int .i64 x', .int .i64 y', .int .i64 l']
  have B2 := (bthen B1 b1).alloc (bthen B1 b1).size (.cells #[.string a', .string b', .int .i64 x', .int .i64 y', .int .i64 l'] 25)
  have hz1 := b1.size
  have hz0 := kZ1.lt
  have hne : w.heap.size + 1 + 1 < w1.heap.size := by omega
  go_wp2_with fail
  generalize World.alloc w1 _ = W2 at *
  clear kF kF1 kO1 kZ1 B1 b1 hz1 hz0
  have f0 := kF2.cell 0
  have f1 := kF2.cell 1
  have o0 := kO2.cell 0
  have o1 := kO2.cell 1
  have o2 := kO2.cell 2
  have o3 := kO2.cell 3
  have n0 := kN2.cell 0
  have n1 := kN2.cell 1
  simp at f0 f1 o0 o1 o2 o3 n0 n1
  go_quiet (fail)
  generalize nq = q1 at *
  go_wp2_with fail
  go_quiet (fail)
  go_wp2_with fail
  have kO3 : Blk (W2.drewN (q1 + nq)) (w.heap.size + 1) 27 #[.int .i64 2, .int .i64 0, .int .i64 t, .string d] := kO2
  have kZ3 : Blk (W2.drewN (q1 + nq)) (w.heap.size + 1 + 1) 25 #[.string ⟨#[]⟩, .string ⟨#[]⟩, .int .i64 0, .int .i64 0, .int .i64 0] := kZ2
  have kN3 : Blk (W2.drewN (q1 + nq)) w1.heap.size 25 #[.string a', .string b', .int .i64 x', .int .i64 y', .int .i64 l'] := kN2
  have B3 : Below w.heap.size w (W2.drewN (q1 + nq)) := bdrew B2 _
  clear kF2 kO2 kZ2 kN2 B2 f0 f1 o0 o1 o2 o3 n0 n1
  generalize W2.drewN (q1 + nq) = W2' at *
  go_wp2_with (first | ((with_reducible refine (hOdd _).mono ?_); rintro e w5 ⟨rfl, b5⟩) | ((with_reducible refine (hInv2 _).mono ?_); rintro e w6 ⟨rfl, b6⟩))
  replace kO3 := (kO3.below b5 kO3.lt)
  replace kO3 := (kO3.below b6 kO3.lt)
  replace kZ3 := (kZ3.below b5 kZ3.lt)
  replace kZ3 := (kZ3.below b6 kZ3.lt)
  replace kN3 := (kN3.below b5 kN3.lt)
  replace kN3 := (kN3.below b6 kN3.lt)
  replace B3 := bthen (bthen B3 b5) b6
  clear b5 b6
  generalize w6 = W3 at *
  have z1 : (a'.extract 0 0).size = 0 := by rw [ByteArray.size_extract]; omega
  have z2 : (a'.extract 0 (a.size)).size = a.size - 0 := by rw [ByteArray.size_extract]; omega
  have z3 : (a).size ≤ 500 := by first | (rw [ByteArray.size_extract]; omega) | omega
  have z4 : (a'.extract (a.size) a'.size).size = a'.size - (a.size) := by rw [ByteArray.size_extract]; omega
  have z5 := tornB_size (a'.extract 0 (a.size)) (a) (M)
  have hT : ∀ W, Calls Try.prog 15 #[.string (a'.extract 0 (a.size)), .string (a), .string (M)] W fun e w' => e = .returned (.string (tornB (a'.extract 0 (a.size)) (a) (M))) ∧ Below W.heap.size W w' := fun W => Torn_any _ _ _ (by omega) (by unfold maxLen; omega) (by unfold maxLen; omega) W
  have c1 : ∀ n : CalmW W3.heap.size W3, n.val.cell? ⟨w.heap.size + 1, 1, none⟩ = some (.int .i64 0) := fun n => ((kO3.below n.below kO3.lt).cell 1).trans (by simp)
  refine wp_region_calm_tail W3.heap.size 22 (by kernel_rfl) (by kernel_rfl) ?_
  simp only [List.take_succ_cons, List.take_zero, List.drop_succ_cons, List.drop_zero]
  repeat (go_big_quiet_step ((with_reducible refine calm_of (Nat.le_refl _) (hT _))))
  have hX := HX.out
  rw [← hX]
  clear hX
  refine wpQuiet_nil ?_
  intro W4 hw'
  obtain ⟨⟨W5, b4⟩, hw''⟩ := hw'
  obtain rfl : W4 = W5 := hw''
  have kN4 := kN3.below b4 kN3.lt
  have kZ4 := kZ3.below b4 kZ3.lt
  have B4 := bthen B3 b4
  have n0 := kN4.cell 0
  have n1 := kN4.cell 1
  have n2 := kN4.cell 2
  have n3 := kN4.cell 3
  have n4 := kN4.cell 4
  have m0 := kN4.frozen 0
  simp at n0 n1 n2 n3 n4
  clear z1 z2 z3 z4 z5 hT c1 b4
  have r0 := kZ4.cell 0
  have r1 := kZ4.cell 1
  have r2 := kZ4.cell 2
  have r3 := kZ4.cell 3
  have r4 := kZ4.cell 4
  have f0 := kZ4.frozen 0
  have f1 := kZ4.frozen 1
  have f2 := kZ4.frozen 2
  have f3 := kZ4.frozen 3
  have f4 := kZ4.frozen 4
  simp at r0 r1 r2 r3 r4
  go_wp2
  have B5 := B4.setCell (p := ⟨w1.heap.size, 0, none⟩) (by show w.heap.size ≤ w1.heap.size; omega) (.string X)
  have kZ5 := kZ4.other ⟨w1.heap.size, 0, none⟩ (by show w.heap.size + 1 + 1 ≠ w1.heap.size; omega) (.string X)
  obtain ⟨g0, B6⟩ := five_stores (v0 := .string X) (v1 := .string b') (v2 := .int .i64 x') (v3 := .int .i64 y') (v4 := .int .i64 l') kZ5 B5 (by omega)
  have q0 := g0.cell 0
  have q1 := g0.cell 1
  have q2 := g0.cell 2
  have q3 := g0.cell 3
  have q4 := g0.cell 4
  simp only [List.getElem?_toArray, List.getElem?_cons_zero, List.getElem?_cons_succ] at q0 q1 q2 q3 q4
  generalize World.setCell (World.setCell (World.setCell (World.setCell (World.setCell (World.setCell W4 _ _) _ _) _ _) _ _) _ _) _ _ = W6 at *
  exact bodyPost_ret (v := .tuple #[.agg #[.string X, .string b', .int .i64 x', .int .i64 y', .int .i64 l'], .int .i64 0]) (by simp [results, Try.results8, go_sem, q0, q1, q2, q3, q4]) rfl ⟨rfl, B6⟩
set_option maxHeartbeats 2000000 in
theorem Tear_two1 (a b d mask : ByteArray) (x y l : Int) (a' b' X : ByteArray) (x' y' l' t : Int) (hX : X = midB b' b (invB mask b.size) 0 b.size) (hz : b.size ≤ b'.size) (hz2 : b'.size ≤ 500)
    (hm : mask.size ≤ 1000) (hdz : d.size ≤ maxLen)
    (hDo : ∀ W, Calls Try.prog 10 #[.agg #[.string a, .string b, .int .i64 x, .int .i64 y, .int .i64 l], .agg #[.int .i64 2, .int .i64 1, .int .i64 t, .string d]] W fun e w' =>
      e = .returned (.tuple #[.agg #[.string a', .string b', .int .i64 x', .int .i64 y', .int .i64 l'], .int .i64 0]) ∧ Below W.heap.size W w') (w : World) :
    Calls Try.prog 8 #[.agg #[.string a, .string b, .int .i64 x, .int .i64 y, .int .i64 l], .agg #[.int .i64 2, .int .i64 1, .int .i64 t, .string d], .string mask] w fun e w' =>
      e = .returned (.tuple #[.agg #[.string a', .string X, .int .i64 x', .int .i64 y', .int .i64 l'], .int .i64 0]) ∧ Below w.heap.size w w' := by
  have hOdd := fun W => Odd_any mask hm b.size (by omega) W
  have hol := oddR_length mask b.size b.size
  have hoz : (⟨(oddR mask b.size b.size).toArray⟩ : ByteArray).size = b.size := by show (oddR mask b.size b.size).toArray.size = _; simp [hol]
  have hInv := fun W => Invert_any ⟨(oddR mask b.size b.size).toArray⟩ (by rw [hoz]; omega) W
  rw [hoz] at hInv
  obtain ⟨M, hM⟩ : ∃ M, M = invB mask b.size := ⟨_, rfl⟩
  have hInv2 : ∀ W, Calls Try.prog 13 #[.string ⟨(oddR mask b.size b.size).toArray⟩] W fun e w' => e = .returned (.string M) ∧ Below W.heap.size W w' := by rw [hM]; exact hInv
  have hMz : M.size ≤ 1000 := by
    rw [hM]
    show (invR (oddR mask b.size b.size) b.size).toArray.size ≤ 1000
    rw [List.size_toArray, invR_length, hol]
    omega
  rw [← hM] at hX
  clear hInv hol hoz hM
  generalize (⟨(oddR mask b.size b.size).toArray⟩ : ByteArray) = O at *
  unfold maxLen at hdz
  replace hX : X = tornB (b'.extract 0 b.size) b M ++ b'.extract b.size b'.size := by
    rw [hX]; unfold midB; rw [show b'.extract 0 0 = ByteArray.empty by simp, ByteArray.empty_append, show b.extract 0 b.size = b by simp]
  have HX := Lib.hid hX
  clear hX
  have kF := Blk.new w 25 #[.string a, .string b, .int .i64 x, .int .i64 y, .int .i64 l]
  go_enter Try.func8, Try.ntmps8
  go_wp2_with (with_reducible refine (hDo _).mono ?_)
  rintro e w1 ⟨rfl, b1⟩
  have kF1 := (kF.alloc (.cells #[.int .i64 2, .int .i64 1, .int .i64 t, .string d] 27)).alloc (.cells #[.string ⟨#[]⟩, .string ⟨#[]⟩, .int .i64 0, .int .i64 0, .int .i64 0] 25)
  have kO1 := (Blk.new (w.alloc (.cells #[.string a, .string b, .int .i64 x, .int .i64 y, .int .i64 l] 25)) 27 #[.int .i64 2, .int .i64 1, .int .i64 t, .string d]).alloc (.cells #[.string ⟨#[]⟩, .string ⟨#[]⟩, .int .i64 0, .int .i64 0, .int .i64 0] 25)
  have kZ1 := Blk.new ((w.alloc (.cells #[.string a, .string b, .int .i64 x, .int .i64 y, .int .i64 l] 25)).alloc (.cells #[.int .i64 2, .int .i64 1, .int .i64 t, .string d] 27)) 25 #[.string ⟨#[]⟩, .string ⟨#[]⟩, .int .i64 0, .int .i64 0, .int .i64 0]
  have B1 : Below w.heap.size w (((w.alloc (.cells #[.string a, .string b, .int .i64 x, .int .i64 y, .int .i64 l] 25)).alloc (.cells #[.int .i64 2, .int .i64 1, .int .i64 t, .string d] 27)).alloc (.cells #[.string ⟨#[]⟩, .string ⟨#[]⟩, .int .i64 0, .int .i64 0, .int .i64 0] 25)) :=
    (((Below.refl _ w).alloc (Nat.le_refl _) _).alloc (by simp) _).alloc (by simp; omega) _
  rw [World.size_alloc] at kO1
  rw [World.size_alloc, World.size_alloc] at kZ1
  generalize World.alloc (World.alloc (World.alloc w _) _) _ = W1 at *
  have kF2 := (kF1.below b1 kF1.lt).alloc (.cells #[.string a', .string b', .int .i64 x', .int .i64 y', .int .i64 l'] 25)
  have kO2 := (kO1.below b1 kO1.lt).alloc (.cells #[.string a', .string b', .int .i64 x', .int .i64 y', .int .i64 l'] 25)
  have kZ2 := (kZ1.below b1 kZ1.lt).alloc (.cells #[.string a', .string b', .int .i64 x', .int .i64 y', .int .i64 l'] 25)
  have kN2 := Blk.new w1 25 #[.string a', .string b', .int .i64 x', .int .i64 y', .int .i64 l']
  have B2 := (bthen B1 b1).alloc (bthen B1 b1).size (.cells #[.string a', .string b', .int .i64 x', .int .i64 y', .int .i64 l'] 25)
  have hz1 := b1.size
  have hz0 := kZ1.lt
  have hne : w.heap.size + 1 + 1 < w1.heap.size := by omega
  go_wp2_with fail
  generalize World.alloc w1 _ = W2 at *
  clear kF kF1 kO1 kZ1 B1 b1 hz1 hz0
  have f0 := kF2.cell 0
  have f1 := kF2.cell 1
  have o0 := kO2.cell 0
  have o1 := kO2.cell 1
  have o2 := kO2.cell 2
  have o3 := kO2.cell 3
  have n0 := kN2.cell 0
  have n1 := kN2.cell 1
  simp at f0 f1 o0 o1 o2 o3 n0 n1
  go_quiet (fail)
  generalize nq = q1 at *
  go_wp2_with fail
  go_quiet (fail)
  go_wp2_with fail
  have kO3 : Blk (W2.drewN (q1 + nq)) (w.heap.size + 1) 27 #[.int .i64 2, .int .i64 1, .int .i64 t, .string d] := kO2
  have kZ3 : Blk (W2.drewN (q1 + nq)) (w.heap.size + 1 + 1) 25 #[.string ⟨#[]⟩, .string ⟨#[]⟩, .int .i64 0, .int .i64 0, .int .i64 0] := kZ2
  have kN3 : Blk (W2.drewN (q1 + nq)) w1.heap.size 25 #[.string a', .string b', .int .i64 x', .int .i64 y', .int .i64 l'] := kN2
  have B3 : Below w.heap.size w (W2.drewN (q1 + nq)) := bdrew B2 _
  clear kF2 kO2 kZ2 kN2 B2 f0 f1 o0 o1 o2 o3 n0 n1
  generalize W2.drewN (q1 + nq) = W2' at *
  go_wp2_with (first | ((with_reducible refine (hOdd _).mono ?_); rintro e w5 ⟨rfl, b5⟩) | ((with_reducible refine (hInv2 _).mono ?_); rintro e w6 ⟨rfl, b6⟩))
  replace kO3 := (kO3.below b5 kO3.lt)
  replace kO3 := (kO3.below b6 kO3.lt)
  replace kZ3 := (kZ3.below b5 kZ3.lt)
  replace kZ3 := (kZ3.below b6 kZ3.lt)
  replace kN3 := (kN3.below b5 kN3.lt)
  replace kN3 := (kN3.below b6 kN3.lt)
  replace B3 := bthen (bthen B3 b5) b6
  clear b5 b6
  generalize w6 = W3 at *
  have z1 : (b'.extract 0 0).size = 0 := by rw [ByteArray.size_extract]; omega
  have z2 : (b'.extract 0 (b.size)).size = b.size - 0 := by rw [ByteArray.size_extract]; omega
  have z3 : (b).size ≤ 500 := by first | (rw [ByteArray.size_extract]; omega) | omega
  have z4 : (b'.extract (b.size) b'.size).size = b'.size - (b.size) := by rw [ByteArray.size_extract]; omega
  have z5 := tornB_size (b'.extract 0 (b.size)) (b) (M)
  have hT : ∀ W, Calls Try.prog 15 #[.string (b'.extract 0 (b.size)), .string (b), .string (M)] W fun e w' => e = .returned (.string (tornB (b'.extract 0 (b.size)) (b) (M))) ∧ Below W.heap.size W w' := fun W => Torn_any _ _ _ (by omega) (by unfold maxLen; omega) (by unfold maxLen; omega) W
  have c1 : ∀ n : CalmW W3.heap.size W3, n.val.cell? ⟨w.heap.size + 1, 1, none⟩ = some (.int .i64 1) := fun n => ((kO3.below n.below kO3.lt).cell 1).trans (by simp)
  refine wp_region_calm_tail W3.heap.size 22 (by kernel_rfl) (by kernel_rfl) ?_
  simp only [List.take_succ_cons, List.take_zero, List.drop_succ_cons, List.drop_zero]
  repeat (go_big_quiet_step ((with_reducible refine calm_of (Nat.le_refl _) (hT _))))
  have hX := HX.out
  rw [← hX]
  clear hX
  refine wpQuiet_nil ?_
  intro W4 hw'
  obtain ⟨⟨W5, b4⟩, hw''⟩ := hw'
  obtain rfl : W4 = W5 := hw''
  have kN4 := kN3.below b4 kN3.lt
  have kZ4 := kZ3.below b4 kZ3.lt
  have B4 := bthen B3 b4
  have n0 := kN4.cell 0
  have n1 := kN4.cell 1
  have n2 := kN4.cell 2
  have n3 := kN4.cell 3
  have n4 := kN4.cell 4
  have m0 := kN4.frozen 1
  simp at n0 n1 n2 n3 n4
  clear z1 z2 z3 z4 z5 hT c1 b4
  have r0 := kZ4.cell 0
  have r1 := kZ4.cell 1
  have r2 := kZ4.cell 2
  have r3 := kZ4.cell 3
  have r4 := kZ4.cell 4
  have f0 := kZ4.frozen 0
  have f1 := kZ4.frozen 1
  have f2 := kZ4.frozen 2
  have f3 := kZ4.frozen 3
  have f4 := kZ4.frozen 4
  simp at r0 r1 r2 r3 r4
  go_wp2
  have B5 := B4.setCell (p := ⟨w1.heap.size, 1, none⟩) (by show w.heap.size ≤ w1.heap.size; omega) (.string X)
  have kZ5 := kZ4.other ⟨w1.heap.size, 1, none⟩ (by show w.heap.size + 1 + 1 ≠ w1.heap.size; omega) (.string X)
  obtain ⟨g0, B6⟩ := five_stores (v0 := .string a') (v1 := .string X) (v2 := .int .i64 x') (v3 := .int .i64 y') (v4 := .int .i64 l') kZ5 B5 (by omega)
  have q0 := g0.cell 0
  have q1 := g0.cell 1
  have q2 := g0.cell 2
  have q3 := g0.cell 3
  have q4 := g0.cell 4
  simp only [List.getElem?_toArray, List.getElem?_cons_zero, List.getElem?_cons_succ] at q0 q1 q2 q3 q4
  generalize World.setCell (World.setCell (World.setCell (World.setCell (World.setCell (World.setCell W4 _ _) _ _) _ _) _ _) _ _) _ _ = W6 at *
  exact bodyPost_ret (v := .tuple #[.agg #[.string a', .string X, .int .i64 x', .int .i64 y', .int .i64 l'], .int .i64 0]) (by simp [results, Try.results8, go_sem, q0, q1, q2, q3, q4]) rfl ⟨rfl, B6⟩
end Go.Proofs.Ythagnnaemcknfaa
