/- Contracts and plain laws, put together: TearW, TearA, Play, PlayA, Ja, Jb. -/
import Derived.Test.YtebkeocpojlepaaGreatDoorG20
import Derived.Test.YtebkeocpojlepaaGreatDoorG04
import Derived.Deep.QuietTactic
import Derived.BigQuiet
import Derived.Test.YtebkeocpojlepaaGreatDoorG03
import Derived.Test.YtebkeocpojlepaaGreatDoorG18
/- power.Tear: the walk. -/
namespace Go.Proofs.YtebkeocpojlepaaGreatDoor
open Go.RowKit
set_option linter.unusedVariables false
set_option linter.unusedSimpArgs false

set_option maxHeartbeats 2000000 in
theorem Tear_one0 (a b d mask : ByteArray) (x y l : Int) (a' b' X : ByteArray) (x' y' l' : Int) (t : Nat) (hX : X = midB a a' mask t (t + d.size)) (hz : t + d.size ≤ a'.size)
    (ha : a.size ≤ 500) (hm : mask.size ≤ 1000) (hd : t + d.size ≤ a.size)
    (hDo : ∀ W, Calls Tryz.prog 95 #[.agg #[.string a, .string b, .int .i64 x, .int .i64 y, .int .i64 l], .agg #[.int .i64 1, .int .i64 0, .int .i64 (t : Int), .string d]] W fun e w' =>
      e = .returned (.tuple #[.agg #[.string a', .string b', .int .i64 x', .int .i64 y', .int .i64 l'], .int .i64 0]) ∧ Below W.heap.size W w') (w : World) :
    Calls Tryz.prog 96 #[.agg #[.string a, .string b, .int .i64 x, .int .i64 y, .int .i64 l], .agg #[.int .i64 1, .int .i64 0, .int .i64 (t : Int), .string d], .string mask] w fun e w' =>
      e = .returned (.tuple #[.agg #[.string X, .string b', .int .i64 x', .int .i64 y', .int .i64 l'], .int .i64 0]) ∧ Below w.heap.size w w' := by
  unfold midB at hX
  have HX := Lib.hid hX
  clear hX
  have kF := Blk.new w 30 #[.string a, .string b, .int .i64 x, .int .i64 y, .int .i64 l]
  go_enter Tryz.func96, Tryz.ntmps96
  go_wp2_with (with_reducible refine (hDo _).mono ?_)
  rintro e w1 ⟨rfl, b1⟩
  have kF1 := (kF.alloc (.cells #[.int .i64 1, .int .i64 0, .int .i64 (t : Int), .string d] 161)).alloc (.cells #[.string ⟨#[]⟩, .string ⟨#[]⟩, .int .i64 0, .int .i64 0, .int .i64 0] 30)
  have kO1 := (Blk.new (w.alloc (.cells #[.string a, .string b, .int .i64 x, .int .i64 y, .int .i64 l] 30)) 161 #[.int .i64 1, .int .i64 0, .int .i64 (t : Int), .string d]).alloc (.cells #[.string ⟨#[]⟩, .string ⟨#[]⟩, .int .i64 0, .int .i64 0, .int .i64 0] 30)
  have kZ1 := Blk.new ((w.alloc (.cells #[.string a, .string b, .int .i64 x, .int .i64 y, .int .i64 l] 30)).alloc (.cells #[.int .i64 1, .int .i64 0, .int .i64 (t : Int), .string d] 161)) 30 #[.string ⟨#[]⟩, .string ⟨#[]⟩, .int .i64 0, .int .i64 0, .int .i64 0]
  have B1 : Below w.heap.size w (((w.alloc (.cells #[.string a, .string b, .int .i64 x, .int .i64 y, .int .i64 l] 30)).alloc (.cells #[.int .i64 1, .int .i64 0, .int .i64 (t : Int), .string d] 161)).alloc (.cells #[.string ⟨#[]⟩, .string ⟨#[]⟩, .int .i64 0, .int .i64 0, .int .i64 0] 30)) :=
    (((Below.refl _ w).alloc (Nat.le_refl _) _).alloc (by simp) _).alloc (by simp; omega) _
  rw [World.size_alloc] at kO1
  rw [World.size_alloc, World.size_alloc] at kZ1
  generalize World.alloc (World.alloc (World.alloc w _) _) _ = W1 at *
  have kF2 := (kF1.below b1 kF1.lt).alloc (.cells #[.string a', .string b', .int .i64 x', .int .i64 y', .int .i64 l'] 30)
  have kO2 := (kO1.below b1 kO1.lt).alloc (.cells #[.string a', .string b', .int .i64 x', .int .i64 y', .int .i64 l'] 30)
  have kZ2 := (kZ1.below b1 kZ1.lt).alloc (.cells #[.string a', .string b', .int .i64 x', .int .i64 y', .int .i64 l'] 30)
  have kN2 := Blk.new w1 30 #[.string a', .string b', .int .i64 x', .int .i64 y', .int .i64 l']
  have B2 := (bthen B1 b1).alloc (bthen B1 b1).size (.cells #[.string a', .string b', .int .i64 x', .int .i64 y', .int .i64 l'] 30)
  have hz1 := b1.size
  have hz0 := kZ1.lt
  have hne : w.heap.size + 1 + 1 < w1.heap.size := by omega
  go_wp2_with fail
  generalize World.alloc w1 _ = W2 at *
  clear kF kF1 kO1 kZ1 B1 b1 hz1 hz0
  have f0 := kF2.cell 0
  have f1 := kF2.cell 1
  have o0 := kO2.cell 0
  have o1 := kO2.cell 1
  have o2 := kO2.cell 2
  have o3 := kO2.cell 3
  have n0 := kN2.cell 0
  have n1 := kN2.cell 1
  simp at f0 f1 o0 o1 o2 o3 n0 n1
  go_quiet (fail)
  generalize nq = q1 at *
  go_wp2_with fail
  have hw1 : IntKind.i64.wrap ((t : Int) + (d.size : Int)) = (t : Int) + (d.size : Int) := IntWalk.i64_in _ (by omega)
  have hw2 : (0 : Int) ≤ (t : Int) + (d.size : Int) := by omega
  have hw3 : ((t : Int) + (d.size : Int)).toNat = t + d.size := by omega
  have hw4 : t + d.size - t = d.size := by omega
  go_quiet (fail)
  go_wp2_with fail
  have kO3 : Blk (W2.drewN (q1 + nq)) (w.heap.size + 1) 161 #[.int .i64 1, .int .i64 0, .int .i64 (t : Int), .string d] := kO2
  have kZ3 : Blk (W2.drewN (q1 + nq)) (w.heap.size + 1 + 1) 30 #[.string ⟨#[]⟩, .string ⟨#[]⟩, .int .i64 0, .int .i64 0, .int .i64 0] := kZ2
  have kN3 : Blk (W2.drewN (q1 + nq)) w1.heap.size 30 #[.string a', .string b', .int .i64 x', .int .i64 y', .int .i64 l'] := kN2
  have B3 : Below w.heap.size w (W2.drewN (q1 + nq)) := bdrew B2 _
  clear kF2 kO2 kZ2 kN2 B2 f0 f1 o0 o1 o2 o3 n0 n1
  clear hw1 hw2 hw3 hw4
  generalize W2.drewN (q1 + nq) = W3 at *
  have z1 : (a.extract 0 t).size = t := by rw [ByteArray.size_extract]; omega
  have z2 : (a.extract t (t + d.size)).size = t + d.size - t := by rw [ByteArray.size_extract]; omega
  have z3 : (a'.extract t (t + d.size)).size ≤ 500 := by first | (rw [ByteArray.size_extract]; omega) | omega
  have z4 : (a.extract (t + d.size) a.size).size = a.size - (t + d.size) := by rw [ByteArray.size_extract]; omega
  have z5 := tornB_size (a.extract t (t + d.size)) (a'.extract t (t + d.size)) (mask)
  have hT : ∀ W, Calls Tryz.prog 121 #[.string (a.extract t (t + d.size)), .string (a'.extract t (t + d.size)), .string (mask)] W fun e w' => e = .returned (.string (tornB (a.extract t (t + d.size)) (a'.extract t (t + d.size)) (mask))) ∧ Below W.heap.size W w' := fun W => Torn_any _ _ _ (by omega) (by unfold maxLen; omega) (by unfold maxLen; omega) W
  have c1 : ∀ n : CalmW W3.heap.size W3, n.val.cell? ⟨w.heap.size + 1, 1, none⟩ = some (.int .i64 0) := fun n => ((kO3.below n.below kO3.lt).cell 1).trans (by simp)
  refine wp_region_calm_tail W3.heap.size 22 (by kernel_rfl) (by kernel_rfl) ?_
  simp only [List.take_succ_cons, List.take_zero, List.drop_succ_cons, List.drop_zero]
  repeat (go_big_quiet_step ((with_reducible refine calm_of (Nat.le_refl _) (hT _))))
  have hX := HX.out
  rw [← hX]
  clear hX
  refine wpQuiet_nil ?_
  intro W4 hw'
  obtain ⟨⟨W5, b4⟩, hw''⟩ := hw'
  obtain rfl : W4 = W5 := hw''
  have kN4 := kN3.below b4 kN3.lt
  have kZ4 := kZ3.below b4 kZ3.lt
  have B4 := bthen B3 b4
  have n0 := kN4.cell 0
  have n1 := kN4.cell 1
  have n2 := kN4.cell 2
  have n3 := kN4.cell 3
  have n4 := kN4.cell 4
  have m0 := kN4.frozen 0
  simp at n0 n1 n2 n3 n4
  clear z1 z2 z3 z4 z5 hT c1 b4
  have r0 := kZ4.cell 0
  have r1 := kZ4.cell 1
  have r2 := kZ4.cell 2
  have r3 := kZ4.cell 3
  have r4 := kZ4.cell 4
  have f0 := kZ4.frozen 0
  have f1 := kZ4.frozen 1
  have f2 := kZ4.frozen 2
  have f3 := kZ4.frozen 3
  have f4 := kZ4.frozen 4
  simp at r0 r1 r2 r3 r4
  go_wp2
  have B5 := B4.setCell (p := ⟨w1.heap.size, 0, none⟩) (by show w.heap.size ≤ w1.heap.size; omega) (.string X)
  have kZ5 := kZ4.other ⟨w1.heap.size, 0, none⟩ (by show w.heap.size + 1 + 1 ≠ w1.heap.size; omega) (.string X)
  obtain ⟨g0, B6⟩ := five_stores (v0 := .string X) (v1 := .string b') (v2 := .int .i64 x') (v3 := .int .i64 y') (v4 := .int .i64 l') kZ5 B5 (by omega)
  have q0 := g0.cell 0
  have q1 := g0.cell 1
  have q2 := g0.cell 2
  have q3 := g0.cell 3
  have q4 := g0.cell 4
  simp only [List.getElem?_toArray, List.getElem?_cons_zero, List.getElem?_cons_succ] at q0 q1 q2 q3 q4
  generalize World.setCell (World.setCell (World.setCell (World.setCell (World.setCell (World.setCell W4 _ _) _ _) _ _) _ _) _ _) _ _ = W6 at *
  exact bodyPost_ret (v := .tuple #[.agg #[.string X, .string b', .int .i64 x', .int .i64 y', .int .i64 l'], .int .i64 0]) (by simp [results, Tryz.results96, go_sem, q0, q1, q2, q3, q4]) rfl ⟨rfl, B6⟩
set_option maxHeartbeats 2000000 in
theorem Tear_one1 (a b d mask : ByteArray) (x y l : Int) (a' b' X : ByteArray) (x' y' l' : Int) (t : Nat) (hX : X = midB b b' mask t (t + d.size)) (hz : t + d.size ≤ b'.size)
    (ha : b.size ≤ 500) (hm : mask.size ≤ 1000) (hd : t + d.size ≤ b.size)
    (hDo : ∀ W, Calls Tryz.prog 95 #[.agg #[.string a, .string b, .int .i64 x, .int .i64 y, .int .i64 l], .agg #[.int .i64 1, .int .i64 1, .int .i64 (t : Int), .string d]] W fun e w' =>
      e = .returned (.tuple #[.agg #[.string a', .string b', .int .i64 x', .int .i64 y', .int .i64 l'], .int .i64 0]) ∧ Below W.heap.size W w') (w : World) :
    Calls Tryz.prog 96 #[.agg #[.string a, .string b, .int .i64 x, .int .i64 y, .int .i64 l], .agg #[.int .i64 1, .int .i64 1, .int .i64 (t : Int), .string d], .string mask] w fun e w' =>
      e = .returned (.tuple #[.agg #[.string a', .string X, .int .i64 x', .int .i64 y', .int .i64 l'], .int .i64 0]) ∧ Below w.heap.size w w' := by
  unfold midB at hX
  have HX := Lib.hid hX
  clear hX
  have kF := Blk.new w 30 #[.string a, .string b, .int .i64 x, .int .i64 y, .int .i64 l]
  go_enter Tryz.func96, Tryz.ntmps96
  go_wp2_with (with_reducible refine (hDo _).mono ?_)
  rintro e w1 ⟨rfl, b1⟩
  have kF1 := (kF.alloc (.cells #[.int .i64 1, .int .i64 1, .int .i64 (t : Int), .string d] 161)).alloc (.cells #[.string ⟨#[]⟩, .string ⟨#[]⟩, .int .i64 0, .int .i64 0, .int .i64 0] 30)
  have kO1 := (Blk.new (w.alloc (.cells #[.string a, .string b, .int .i64 x, .int .i64 y, .int .i64 l] 30)) 161 #[.int .i64 1, .int .i64 1, .int .i64 (t : Int), .string d]).alloc (.cells #[.string ⟨#[]⟩, .string ⟨#[]⟩, .int .i64 0, .int .i64 0, .int .i64 0] 30)
  have kZ1 := Blk.new ((w.alloc (.cells #[.string a, .string b, .int .i64 x, .int .i64 y, .int .i64 l] 30)).alloc (.cells #[.int .i64 1, .int .i64 1, .int .i64 (t : Int), .string d] 161)) 30 #[.string ⟨#[]⟩, .string ⟨#[]⟩, .int .i64 0, .int .i64 0, .int .i64 0]
  have B1 : Below w.heap.size w (((w.alloc (.cells #[.string a, .string b, .int .i64 x, .int .i64 y, .int .i64 l] 30)).alloc (.cells #[.int .i64 1, .int .i64 1, .int .i64 (t : Int), .string d] 161)).alloc (.cells #[.string ⟨#[]⟩, .string ⟨#[]⟩, .int .i64 0, .int .i64 0, .int .i64 0] 30)) :=
    (((Below.refl _ w).alloc (Nat.le_refl _) _).alloc (by simp) _).alloc (by simp; omega) _
  rw [World.size_alloc] at kO1
  rw [World.size_alloc, World.size_alloc] at kZ1
  generalize World.alloc (World.alloc (World.alloc w _) _) _ = W1 at *
  have kF2 := (kF1.below b1 kF1.lt).alloc (.cells #[.string a', .string b', .int .i64 x', .int .i64 y', .int .i64 l'] 30)
  have kO2 := (kO1.below b1 kO1.lt).alloc (.cells #[.string a', .string b', .int .i64 x', .int .i64 y', .int .i64 l'] 30)
  have kZ2 := (kZ1.below b1 kZ1.lt).alloc (.cells #[.string a', .string b', .int .i64 x', .int .i64 y', .int .i64 l'] 30)
  have kN2 := Blk.new w1 30 #[.string a', .string b', .int .i64 x', .int .i64 y', .int .i64 l']
  have B2 := (bthen B1 b1).alloc (bthen B1 b1).size (.cells #[.string a', .string b', .int .i64 x', .int .i64 y', .int .i64 l'] 30)
  have hz1 := b1.size
  have hz0 := kZ1.lt
  have hne : w.heap.size + 1 + 1 < w1.heap.size := by omega
  go_wp2_with fail
  generalize World.alloc w1 _ = W2 at *
  clear kF kF1 kO1 kZ1 B1 b1 hz1 hz0
  have f0 := kF2.cell 0
  have f1 := kF2.cell 1
  have o0 := kO2.cell 0
  have o1 := kO2.cell 1
  have o2 := kO2.cell 2
  have o3 := kO2.cell 3
  have n0 := kN2.cell 0
  have n1 := kN2.cell 1
  simp at f0 f1 o0 o1 o2 o3 n0 n1
  go_quiet (fail)
  generalize nq = q1 at *
  go_wp2_with fail
  have hw1 : IntKind.i64.wrap ((t : Int) + (d.size : Int)) = (t : Int) + (d.size : Int) := IntWalk.i64_in _ (by omega)
  have hw2 : (0 : Int) ≤ (t : Int) + (d.size : Int) := by omega
  have hw3 : ((t : Int) + (d.size : Int)).toNat = t + d.size := by omega
  have hw4 : t + d.size - t = d.size := by omega
  go_quiet (fail)
  go_wp2_with fail
  have kO3 : Blk (W2.drewN (q1 + nq)) (w.heap.size + 1) 161 #[.int .i64 1, .int .i64 1, .int .i64 (t : Int), .string d] := kO2
  have kZ3 : Blk (W2.drewN (q1 + nq)) (w.heap.size + 1 + 1) 30 #[.string ⟨#[]⟩, .string ⟨#[]⟩, .int .i64 0, .int .i64 0, .int .i64 0] := kZ2
  have kN3 : Blk (W2.drewN (q1 + nq)) w1.heap.size 30 #[.string a', .string b', .int .i64 x', .int .i64 y', .int .i64 l'] := kN2
  have B3 : Below w.heap.size w (W2.drewN (q1 + nq)) := bdrew B2 _
  clear kF2 kO2 kZ2 kN2 B2 f0 f1 o0 o1 o2 o3 n0 n1
  clear hw1 hw2 hw3 hw4
  generalize W2.drewN (q1 + nq) = W3 at *
  have z1 : (b.extract 0 t).size = t := by rw [ByteArray.size_extract]; omega
  have z2 : (b.extract t (t + d.size)).size = t + d.size - t := by rw [ByteArray.size_extract]; omega
  have z3 : (b'.extract t (t + d.size)).size ≤ 500 := by first | (rw [ByteArray.size_extract]; omega) | omega
  have z4 : (b.extract (t + d.size) b.size).size = b.size - (t + d.size) := by rw [ByteArray.size_extract]; omega
  have z5 := tornB_size (b.extract t (t + d.size)) (b'.extract t (t + d.size)) (mask)
  have hT : ∀ W, Calls Tryz.prog 121 #[.string (b.extract t (t + d.size)), .string (b'.extract t (t + d.size)), .string (mask)] W fun e w' => e = .returned (.string (tornB (b.extract t (t + d.size)) (b'.extract t (t + d.size)) (mask))) ∧ Below W.heap.size W w' := fun W => Torn_any _ _ _ (by omega) (by unfold maxLen; omega) (by unfold maxLen; omega) W
  have c1 : ∀ n : CalmW W3.heap.size W3, n.val.cell? ⟨w.heap.size + 1, 1, none⟩ = some (.int .i64 1) := fun n => ((kO3.below n.below kO3.lt).cell 1).trans (by simp)
  refine wp_region_calm_tail W3.heap.size 22 (by kernel_rfl) (by kernel_rfl) ?_
  simp only [List.take_succ_cons, List.take_zero, List.drop_succ_cons, List.drop_zero]
  repeat (go_big_quiet_step ((with_reducible refine calm_of (Nat.le_refl _) (hT _))))
  have hX := HX.out
  rw [← hX]
  clear hX
  refine wpQuiet_nil ?_
  intro W4 hw'
  obtain ⟨⟨W5, b4⟩, hw''⟩ := hw'
  obtain rfl : W4 = W5 := hw''
  have kN4 := kN3.below b4 kN3.lt
  have kZ4 := kZ3.below b4 kZ3.lt
  have B4 := bthen B3 b4
  have n0 := kN4.cell 0
  have n1 := kN4.cell 1
  have n2 := kN4.cell 2
  have n3 := kN4.cell 3
  have n4 := kN4.cell 4
  have m0 := kN4.frozen 1
  simp at n0 n1 n2 n3 n4
  clear z1 z2 z3 z4 z5 hT c1 b4
  have r0 := kZ4.cell 0
  have r1 := kZ4.cell 1
  have r2 := kZ4.cell 2
  have r3 := kZ4.cell 3
  have r4 := kZ4.cell 4
  have f0 := kZ4.frozen 0
  have f1 := kZ4.frozen 1
  have f2 := kZ4.frozen 2
  have f3 := kZ4.frozen 3
  have f4 := kZ4.frozen 4
  simp at r0 r1 r2 r3 r4
  go_wp2
  have B5 := B4.setCell (p := ⟨w1.heap.size, 1, none⟩) (by show w.heap.size ≤ w1.heap.size; omega) (.string X)
  have kZ5 := kZ4.other ⟨w1.heap.size, 1, none⟩ (by show w.heap.size + 1 + 1 ≠ w1.heap.size; omega) (.string X)
  obtain ⟨g0, B6⟩ := five_stores (v0 := .string a') (v1 := .string X) (v2 := .int .i64 x') (v3 := .int .i64 y') (v4 := .int .i64 l') kZ5 B5 (by omega)
  have q0 := g0.cell 0
  have q1 := g0.cell 1
  have q2 := g0.cell 2
  have q3 := g0.cell 3
  have q4 := g0.cell 4
  simp only [List.getElem?_toArray, List.getElem?_cons_zero, List.getElem?_cons_succ] at q0 q1 q2 q3 q4
  generalize World.setCell (World.setCell (World.setCell (World.setCell (World.setCell (World.setCell W4 _ _) _ _) _ _) _ _) _ _) _ _ = W6 at *
  exact bodyPost_ret (v := .tuple #[.agg #[.string a', .string X, .int .i64 x', .int .i64 y', .int .i64 l'], .int .i64 0]) (by simp [results, Tryz.results96, go_sem, q0, q1, q2, q3, q4]) rfl ⟨rfl, B6⟩
set_option maxHeartbeats 2000000 in
theorem Tear_two0 (a b d mask : ByteArray) (x y l : Int) (a' b' X : ByteArray) (x' y' l' t : Int) (hX : X = midB a' a (invB mask a.size) 0 a.size) (hz : a.size ≤ a'.size) (hz2 : a'.size ≤ 500)
    (hm : mask.size ≤ 1000) (hdz : d.size ≤ maxLen)
    (hDo : ∀ W, Calls Tryz.prog 95 #[.agg #[.string a, .string b, .int .i64 x, .int .i64 y, .int .i64 l], .agg #[.int .i64 2, .int .i64 0, .int .i64 t, .string d]] W fun e w' =>
      e = .returned (.tuple #[.agg #[.string a', .string b', .int .i64 x', .int .i64 y', .int .i64 l'], .int .i64 0]) ∧ Below W.heap.size W w') (w : World) :
    Calls Tryz.prog 96 #[.agg #[.string a, .string b, .int .i64 x, .int .i64 y, .int .i64 l], .agg #[.int .i64 2, .int .i64 0, .int .i64 t, .string d], .string mask] w fun e w' =>
      e = .returned (.tuple #[.agg #[.string X, .string b', .int .i64 x', .int .i64 y', .int .i64 l'], .int .i64 0]) ∧ Below w.heap.size w w' := by
  have hOdd := fun W => Odd_any mask hm a.size (by omega) W
  have hol := oddR_length mask a.size a.size
  have hoz : (⟨(oddR mask a.size a.size).toArray⟩ : ByteArray).size = a.size := by show (oddR mask a.size a.size).toArray.size = _; simp [hol]
  have hInv := fun W => Invert_any ⟨(oddR mask a.size a.size).toArray⟩ (by rw [hoz]; omega) W
  rw [hoz] at hInv
  obtain ⟨M, hM⟩ : ∃ M, M = invB mask a.size := ⟨_, rfl⟩
  have hInv2 : ∀ W, Calls Tryz.prog 119 #[.string ⟨(oddR mask a.size a.size).toArray⟩] W fun e w' => e = .returned (.string M) ∧ Below W.heap.size W w' := by rw [hM]; exact hInv
  have hMz : M.size ≤ 1000 := by
    rw [hM]
    show (invR (oddR mask a.size a.size) a.size).toArray.size ≤ 1000
    rw [List.size_toArray, invR_length, hol]
    omega
  rw [← hM] at hX
  clear hInv hol hoz hM
  generalize (⟨(oddR mask a.size a.size).toArray⟩ : ByteArray) = O at *
  unfold maxLen at hdz
  replace hX : X = tornB (a'.extract 0 a.size) a M ++ a'.extract a.size a'.size := by
    rw [hX]; unfold midB; rw [show a'.extract 0 0 = ByteArray.empty by simp, ByteArray.empty_append, show a.extract 0 a.size = a by simp]
  have HX := Lib.hid hX
  clear hX
  have kF := Blk.new w 30 #[.string a, .string b, .int .i64 x, .int .i64 y, .int .i64 l]
  go_enter Tryz.func96, Tryz.ntmps96
  go_wp2_with (with_reducible refine (hDo _).mono ?_)
  rintro e w1 ⟨rfl, b1⟩
  have kF1 := (kF.alloc (.cells #[.int .i64 2, .int .i64 0, .int .i64 t, .string d] 161)).alloc (.cells #[.string ⟨#[]⟩, .string ⟨#[]⟩, .int .i64 0, .int .i64 0, .int .i64 0] 30)
  have kO1 := (Blk.new (w.alloc (.cells #[.string a, .string b, .int .i64 x, .int .i64 y, .int .i64 l] 30)) 161 #[.int .i64 2, .int .i64 0, .int .i64 t, .string d]).alloc (.cells #[.string ⟨#[]⟩, .string ⟨#[]⟩, .int .i64 0, .int .i64 0, .int .i64 0] 30)
  have kZ1 := Blk.new ((w.alloc (.cells #[.string a, .string b, .int .i64 x, .int .i64 y, .int .i64 l] 30)).alloc (.cells #[.int .i64 2, .int .i64 0, .int .i64 t, .string d] 161)) 30 #[.string ⟨#[]⟩, .string ⟨#[]⟩, .int .i64 0, .int .i64 0, .int .i64 0]
  have B1 : Below w.heap.size w (((w.alloc (.cells #[.string a, .string b, .int .i64 x, .int .i64 y, .int .i64 l] 30)).alloc (.cells #[.int .i64 2, .int .i64 0, .int .i64 t, .string d] 161)).alloc (.cells #[.string ⟨#[]⟩, .string ⟨#[]⟩, .int .i64 0, .int .i64 0, .int .i64 0] 30)) :=
    (((Below.refl _ w).alloc (Nat.le_refl _) _).alloc (by simp) _).alloc (by simp; omega) _
  rw [World.size_alloc] at kO1
  rw [World.size_alloc, World.size_alloc] at kZ1
  generalize World.alloc (World.alloc (World.alloc w _) _) _ = W1 at *
  have kF2 := (kF1.below b1 kF1.lt).alloc (.cells #[.string a', .string b', .int .i64 x', .int .i64 y', .int .i64 l'] 30)
  have kO2 := (kO1.below b1 kO1.lt).alloc (.cells #[.string a', .string b', .int .i64 x', .int .i64 y', .int .i64 l'] 30)
  have kZ2 := (kZ1.below b1 kZ1.lt).alloc (.cells #[.string a', .string b', .int .i64 x', .int .i64 y', .int .i64 l'] 30)
  have kN2 := Blk.new w1 30 #[.string a', .string b', .int .i64 x', .int .i64 y', .int .i64 l']
  have B2 := (bthen B1 b1).alloc (bthen B1 b1).size (.cells #[.string a', .string b', .int .i64 x', .int .i64 y', .int .i64 l'] 30)
  have hz1 := b1.size
  have hz0 := kZ1.lt
  have hne : w.heap.size + 1 + 1 < w1.heap.size := by omega
  go_wp2_with fail
  generalize World.alloc w1 _ = W2 at *
  clear kF kF1 kO1 kZ1 B1 b1 hz1 hz0
  have f0 := kF2.cell 0
  have f1 := kF2.cell 1
  have o0 := kO2.cell 0
  have o1 := kO2.cell 1
  have o2 := kO2.cell 2
  have o3 := kO2.cell 3
  have n0 := kN2.cell 0
  have n1 := kN2.cell 1
  simp at f0 f1 o0 o1 o2 o3 n0 n1
  go_quiet (fail)
  generalize nq = q1 at *
  go_wp2_with fail
  go_quiet (fail)
  go_wp2_with fail
  have kO3 : Blk (W2.drewN (q1 + nq)) (w.heap.size + 1) 161 #[.int .i64 2, .int .i64 0, .int .i64 t, .string d] := kO2
  have kZ3 : Blk (W2.drewN (q1 + nq)) (w.heap.size + 1 + 1) 30 #[.string ⟨#[]⟩, .string ⟨#[]⟩, .int .i64 0, .int .i64 0, .int .i64 0] := kZ2
  have kN3 : Blk (W2.drewN (q1 + nq)) w1.heap.size 30 #[.string a', .string b', .int .i64 x', .int .i64 y', .int .i64 l'] := kN2
  have B3 : Below w.heap.size w (W2.drewN (q1 + nq)) := bdrew B2 _
  clear kF2 kO2 kZ2 kN2 B2 f0 f1 o0 o1 o2 o3 n0 n1
  generalize W2.drewN (q1 + nq) = W2' at *
  go_wp2_with (first | ((with_reducible refine (hOdd _).mono ?_); rintro e w5 ⟨rfl, b5⟩) | ((with_reducible refine (hInv2 _).mono ?_); rintro e w6 ⟨rfl, b6⟩))
  replace kO3 := (kO3.below b5 kO3.lt)
  replace kO3 := (kO3.below b6 kO3.lt)
  replace kZ3 := (kZ3.below b5 kZ3.lt)
  replace kZ3 := (kZ3.below b6 kZ3.lt)
  replace kN3 := (kN3.below b5 kN3.lt)
  replace kN3 := (kN3.below b6 kN3.lt)
  replace B3 := bthen (bthen B3 b5) b6
  clear b5 b6
  generalize w6 = W3 at *
  have z1 : (a'.extract 0 0).size = 0 := by rw [ByteArray.size_extract]; omega
  have z2 : (a'.extract 0 (a.size)).size = a.size - 0 := by rw [ByteArray.size_extract]; omega
  have z3 : (a).size ≤ 500 := by first | (rw [ByteArray.size_extract]; omega) | omega
  have z4 : (a'.extract (a.size) a'.size).size = a'.size - (a.size) := by rw [ByteArray.size_extract]; omega
  have z5 := tornB_size (a'.extract 0 (a.size)) (a) (M)
  have hT : ∀ W, Calls Tryz.prog 121 #[.string (a'.extract 0 (a.size)), .string (a), .string (M)] W fun e w' => e = .returned (.string (tornB (a'.extract 0 (a.size)) (a) (M))) ∧ Below W.heap.size W w' := fun W => Torn_any _ _ _ (by omega) (by unfold maxLen; omega) (by unfold maxLen; omega) W
  have c1 : ∀ n : CalmW W3.heap.size W3, n.val.cell? ⟨w.heap.size + 1, 1, none⟩ = some (.int .i64 0) := fun n => ((kO3.below n.below kO3.lt).cell 1).trans (by simp)
  refine wp_region_calm_tail W3.heap.size 22 (by kernel_rfl) (by kernel_rfl) ?_
  simp only [List.take_succ_cons, List.take_zero, List.drop_succ_cons, List.drop_zero]
  repeat (go_big_quiet_step ((with_reducible refine calm_of (Nat.le_refl _) (hT _))))
  have hX := HX.out
  rw [← hX]
  clear hX
  refine wpQuiet_nil ?_
  intro W4 hw'
  obtain ⟨⟨W5, b4⟩, hw''⟩ := hw'
  obtain rfl : W4 = W5 := hw''
  have kN4 := kN3.below b4 kN3.lt
  have kZ4 := kZ3.below b4 kZ3.lt
  have B4 := bthen B3 b4
  have n0 := kN4.cell 0
  have n1 := kN4.cell 1
  have n2 := kN4.cell 2
  have n3 := kN4.cell 3
  have n4 := kN4.cell 4
  have m0 := kN4.frozen 0
  simp at n0 n1 n2 n3 n4
  clear z1 z2 z3 z4 z5 hT c1 b4
  have r0 := kZ4.cell 0
  have r1 := kZ4.cell 1
  have r2 := kZ4.cell 2
  have r3 := kZ4.cell 3
  have r4 := kZ4.cell 4
  have f0 := kZ4.frozen 0
  have f1 := kZ4.frozen 1
  have f2 := kZ4.frozen 2
  have f3 := kZ4.frozen 3
  have f4 := kZ4.frozen 4
  simp at r0 r1 r2 r3 r4
  go_wp2
  have B5 := B4.setCell (p := ⟨w1.heap.size, 0, none⟩) (by show w.heap.size ≤ w1.heap.size; omega) (.string X)
  have kZ5 := kZ4.other ⟨w1.heap.size, 0, none⟩ (by show w.heap.size + 1 + 1 ≠ w1.heap.size; omega) (.string X)
  obtain ⟨g0, B6⟩ := five_stores (v0 := .string X) (v1 := .string b') (v2 := .int .i64 x') (v3 := .int .i64 y') (v4 := .int .i64 l') kZ5 B5 (by omega)
  have q0 := g0.cell 0
  have q1 := g0.cell 1
  have q2 := g0.cell 2
  have q3 := g0.cell 3
  have q4 := g0.cell 4
  simp only [List.getElem?_toArray, List.getElem?_cons_zero, List.getElem?_cons_succ] at q0 q1 q2 q3 q4
  generalize World.setCell (World.setCell (World.setCell (World.setCell (World.setCell (World.setCell W4 _ _) _ _) _ _) _ _) _ _) _ _ = W6 at *
  exact bodyPost_ret (v := .tuple #[.agg #[.string X, .string b', .int .i64 x', .int .i64 y', .int .i64 l'], .int .i64 0]) (by simp [results, Tryz.results96, go_sem, q0, q1, q2, q3, q4]) rfl ⟨rfl, B6⟩
set_option maxHeartbeats 2000000 in
theorem Tear_two1 (a b d mask : ByteArray) (x y l : Int) (a' b' X : ByteArray) (x' y' l' t : Int) (hX : X = midB b' b (invB mask b.size) 0 b.size) (hz : b.size ≤ b'.size) (hz2 : b'.size ≤ 500)
    (hm : mask.size ≤ 1000) (hdz : d.size ≤ maxLen)
    (hDo : ∀ W, Calls Tryz.prog 95 #[.agg #[.string a, .string b, .int .i64 x, .int .i64 y, .int .i64 l], .agg #[.int .i64 2, .int .i64 1, .int .i64 t, .string d]] W fun e w' =>
      e = .returned (.tuple #[.agg #[.string a', .string b', .int .i64 x', .int .i64 y', .int .i64 l'], .int .i64 0]) ∧ Below W.heap.size W w') (w : World) :
    Calls Tryz.prog 96 #[.agg #[.string a, .string b, .int .i64 x, .int .i64 y, .int .i64 l], .agg #[.int .i64 2, .int .i64 1, .int .i64 t, .string d], .string mask] w fun e w' =>
      e = .returned (.tuple #[.agg #[.string a', .string X, .int .i64 x', .int .i64 y', .int .i64 l'], .int .i64 0]) ∧ Below w.heap.size w w' := by
  have hOdd := fun W => Odd_any mask hm b.size (by omega) W
  have hol := oddR_length mask b.size b.size
  have hoz : (⟨(oddR mask b.size b.size).toArray⟩ : ByteArray).size = b.size := by show (oddR mask b.size b.size).toArray.size = _; simp [hol]
  have hInv := fun W => Invert_any ⟨(oddR mask b.size b.size).toArray⟩ (by rw [hoz]; omega) W
  rw [hoz] at hInv
  obtain ⟨M, hM⟩ : ∃ M, M = invB mask b.size := ⟨_, rfl⟩
  have hInv2 : ∀ W, Calls Tryz.prog 119 #[.string ⟨(oddR mask b.size b.size).toArray⟩] W fun e w' => e = .returned (.string M) ∧ Below W.heap.size W w' := by rw [hM]; exact hInv
  have hMz : M.size ≤ 1000 := by
    rw [hM]
    show (invR (oddR mask b.size b.size) b.size).toArray.size ≤ 1000
    rw [List.size_toArray, invR_length, hol]
    omega
  rw [← hM] at hX
  clear hInv hol hoz hM
  generalize (⟨(oddR mask b.size b.size).toArray⟩ : ByteArray) = O at *
  unfold maxLen at hdz
  replace hX : X = tornB (b'.extract 0 b.size) b M ++ b'.extract b.size b'.size := by
    rw [hX]; unfold midB; rw [show b'.extract 0 0 = ByteArray.empty by simp, ByteArray.empty_append, show b.extract 0 b.size = b by simp]
  have HX := Lib.hid hX
  clear hX
  have kF := Blk.new w 30 #[.string a, .string b, .int .i64 x, .int .i64 y, .int .i64 l]
  go_enter Tryz.func96, Tryz.ntmps96
  go_wp2_with (with_reducible refine (hDo _).mono ?_)
  rintro e w1 ⟨rfl, b1⟩
  have kF1 := (kF.alloc (.cells #[.int .i64 2, .int .i64 1, .int .i64 t, .string d] 161)).alloc (.cells #[.string ⟨#[]⟩, .string ⟨#[]⟩, .int .i64 0, .int .i64 0, .int .i64 0] 30)
  have kO1 := (Blk.new (w.alloc (.cells #[.string a, .string b, .int .i64 x, .int .i64 y, .int .i64 l] 30)) 161 #[.int .i64 2, .int .i64 1, .int .i64 t, .string d]).alloc (.cells #[.string ⟨#[]⟩, .string ⟨#[]⟩, .int .i64 0, .int .i64 0, .int .i64 0] 30)
  have kZ1 := Blk.new ((w.alloc (.cells #[.string a, .string b, .int .i64 x, .int .i64 y, .int .i64 l] 30)).alloc (.cells #[.int .i64 2, .int .i64 1, .int .i64 t, .string d] 161)) 30 #[.string ⟨#[]⟩, .string ⟨#[]⟩, .int .i64 0, .int .i64 0, .int .i64 0]
  have B1 : Below w.heap.size w (((w.alloc (.cells #[.string a, .string b, .int .i64 x, .int .i64 y, .int .i64 l] 30)).alloc (.cells #[.int .i64 2, .int .i64 1, .int .i64 t, .string d] 161)).alloc (.cells #[.string ⟨#[]⟩, .string ⟨#[]⟩, .int .i64 0, .int .i64 0, .int .i64 0] 30)) :=
    (((Below.refl _ w).alloc (Nat.le_refl _) _).alloc (by simp) _).alloc (by simp; omega) _
  rw [World.size_alloc] at kO1
  rw [World.size_alloc, World.size_alloc] at kZ1
  generalize World.alloc (World.alloc (World.alloc w _) _) _ = W1 at *
  have kF2 := (kF1.below b1 kF1.lt).alloc (.cells #[.string a', .string b', .int .i64 x', .int .i64 y', .int .i64 l'] 30)
  have kO2 := (kO1.below b1 kO1.lt).alloc (.cells #[.string a', .string b', .int .i64 x', .int .i64 y', .int .i64 l'] 30)
  have kZ2 := (kZ1.below b1 kZ1.lt).alloc (.cells #[.string a', .string b', .int .i64 x', .int .i64 y', .int .i64 l'] 30)
  have kN2 := Blk.new w1 30 #[.string a', .string b', .int .i64 x', .int .i64 y', .int .i64 l']
  have B2 := (bthen B1 b1).alloc (bthen B1 b1).size (.cells #[.string a', .string b', .int .i64 x', .int .i64 y', .int .i64 l'] 30)
  have hz1 := b1.size
  have hz0 := kZ1.lt
  have hne : w.heap.size + 1 + 1 < w1.heap.size := by omega
  go_wp2_with fail
  generalize World.alloc w1 _ = W2 at *
  clear kF kF1 kO1 kZ1 B1 b1 hz1 hz0
  have f0 := kF2.cell 0
  have f1 := kF2.cell 1
  have o0 := kO2.cell 0
  have o1 := kO2.cell 1
  have o2 := kO2.cell 2
  have o3 := kO2.cell 3
  have n0 := kN2.cell 0
  have n1 := kN2.cell 1
  simp at f0 f1 o0 o1 o2 o3 n0 n1
  go_quiet (fail)
  generalize nq = q1 at *
  go_wp2_with fail
  go_quiet (fail)
  go_wp2_with fail
  have kO3 : Blk (W2.drewN (q1 + nq)) (w.heap.size + 1) 161 #[.int .i64 2, .int .i64 1, .int .i64 t, .string d] := kO2
  have kZ3 : Blk (W2.drewN (q1 + nq)) (w.heap.size + 1 + 1) 30 #[.string ⟨#[]⟩, .string ⟨#[]⟩, .int .i64 0, .int .i64 0, .int .i64 0] := kZ2
  have kN3 : Blk (W2.drewN (q1 + nq)) w1.heap.size 30 #[.string a', .string b', .int .i64 x', .int .i64 y', .int .i64 l'] := kN2
  have B3 : Below w.heap.size w (W2.drewN (q1 + nq)) := bdrew B2 _
  clear kF2 kO2 kZ2 kN2 B2 f0 f1 o0 o1 o2 o3 n0 n1
  generalize W2.drewN (q1 + nq) = W2' at *
  go_wp2_with (first | ((with_reducible refine (hOdd _).mono ?_); rintro e w5 ⟨rfl, b5⟩) | ((with_reducible refine (hInv2 _).mono ?_); rintro e w6 ⟨rfl, b6⟩))
  replace kO3 := (kO3.below b5 kO3.lt)
  replace kO3 := (kO3.below b6 kO3.lt)
  replace kZ3 := (kZ3.below b5 kZ3.lt)
  replace kZ3 := (kZ3.below b6 kZ3.lt)
  replace kN3 := (kN3.below b5 kN3.lt)
  replace kN3 := (kN3.below b6 kN3.lt)
  replace B3 := bthen (bthen B3 b5) b6
  clear b5 b6
  generalize w6 = W3 at *
  have z1 : (b'.extract 0 0).size = 0 := by rw [ByteArray.size_extract]; omega
  have z2 : (b'.extract 0 (b.size)).size = b.size - 0 := by rw [ByteArray.size_extract]; omega
  have z3 : (b).size ≤ 500 := by first | (rw [ByteArray.size_extract]; omega) | omega
  have z4 : (b'.extract (b.size) b'.size).size = b'.size - (b.size) := by rw [ByteArray.size_extract]; omega
  have z5 := tornB_size (b'.extract 0 (b.size)) (b) (M)
  have hT : ∀ W, Calls Tryz.prog 121 #[.string (b'.extract 0 (b.size)), .string (b), .string (M)] W fun e w' => e = .returned (.string (tornB (b'.extract 0 (b.size)) (b) (M))) ∧ Below W.heap.size W w' := fun W => Torn_any _ _ _ (by omega) (by unfold maxLen; omega) (by unfold maxLen; omega) W
  have c1 : ∀ n : CalmW W3.heap.size W3, n.val.cell? ⟨w.heap.size + 1, 1, none⟩ = some (.int .i64 1) := fun n => ((kO3.below n.below kO3.lt).cell 1).trans (by simp)
  refine wp_region_calm_tail W3.heap.size 22 (by kernel_rfl) (by kernel_rfl) ?_
  simp only [List.take_succ_cons, List.take_zero, List.drop_succ_cons, List.drop_zero]
  repeat (go_big_quiet_step ((with_reducible refine calm_of (Nat.le_refl _) (hT _))))
  have hX := HX.out
  rw [← hX]
  clear hX
  refine wpQuiet_nil ?_
  intro W4 hw'
  obtain ⟨⟨W5, b4⟩, hw''⟩ := hw'
  obtain rfl : W4 = W5 := hw''
  have kN4 := kN3.below b4 kN3.lt
  have kZ4 := kZ3.below b4 kZ3.lt
  have B4 := bthen B3 b4
  have n0 := kN4.cell 0
  have n1 := kN4.cell 1
  have n2 := kN4.cell 2
  have n3 := kN4.cell 3
  have n4 := kN4.cell 4
  have m0 := kN4.frozen 1
  simp at n0 n1 n2 n3 n4
  clear z1 z2 z3 z4 z5 hT c1 b4
  have r0 := kZ4.cell 0
  have r1 := kZ4.cell 1
  have r2 := kZ4.cell 2
  have r3 := kZ4.cell 3
  have r4 := kZ4.cell 4
  have f0 := kZ4.frozen 0
  have f1 := kZ4.frozen 1
  have f2 := kZ4.frozen 2
  have f3 := kZ4.frozen 3
  have f4 := kZ4.frozen 4
  simp at r0 r1 r2 r3 r4
  go_wp2
  have B5 := B4.setCell (p := ⟨w1.heap.size, 1, none⟩) (by show w.heap.size ≤ w1.heap.size; omega) (.string X)
  have kZ5 := kZ4.other ⟨w1.heap.size, 1, none⟩ (by show w.heap.size + 1 + 1 ≠ w1.heap.size; omega) (.string X)
  obtain ⟨g0, B6⟩ := five_stores (v0 := .string a') (v1 := .string X) (v2 := .int .i64 x') (v3 := .int .i64 y') (v4 := .int .i64 l') kZ5 B5 (by omega)
  have q0 := g0.cell 0
  have q1 := g0.cell 1
  have q2 := g0.cell 2
  have q3 := g0.cell 3
  have q4 := g0.cell 4
  simp only [List.getElem?_toArray, List.getElem?_cons_zero, List.getElem?_cons_succ] at q0 q1 q2 q3 q4
  generalize World.setCell (World.setCell (World.setCell (World.setCell (World.setCell (World.setCell W4 _ _) _ _) _ _) _ _) _ _) _ _ = W6 at *
  exact bodyPost_ret (v := .tuple #[.agg #[.string a', .string X, .int .i64 x', .int .i64 y', .int .i64 l'], .int .i64 0]) (by simp [results, Tryz.results96, go_sem, q0, q1, q2, q3, q4]) rfl ⟨rfl, B6⟩
end Go.Proofs.YtebkeocpojlepaaGreatDoor

/- power.Tear: its contract. -/
namespace Go.Proofs.YtebkeocpojlepaaGreatDoor
open Go.RowKit
set_option linter.unusedVariables false
set_option linter.unusedSimpArgs false

set_option maxHeartbeats 1000000 in
theorem Tear_bad (f : Fl) (o : Oq) (mask : ByteArray) (E : Int) (hE : (E != 0) = true)
    (hDo : ∀ W, Calls Tryz.prog 95 #[flV f, oqV o] W fun e w' => e = .returned (.tuple #[flV f, .int .i64 E]) ∧ Below W.heap.size W w') (w : World) :
    Calls Tryz.prog 96 #[flV f, oqV o, .string mask] w fun e w' => e = .returned (.tuple #[flV f, .int .i64 E]) ∧ Below w.heap.size w w' := by
  obtain ⟨a, b, x, y, l⟩ := f
  obtain ⟨K, k, t, d⟩ := o
  have kF := ((Blk.new w 30 #[.string a, .string b, .int .i64 x, .int .i64 y, .int .i64 l]).alloc (.cells #[.int .i64 K, .int .i64 k, .int .i64 t, .string d] 161)).alloc (.cells #[.string ⟨#[]⟩, .string ⟨#[]⟩, .int .i64 0, .int .i64 0, .int .i64 0] 30)
  have kZ := Blk.new ((w.alloc (.cells #[.string a, .string b, .int .i64 x, .int .i64 y, .int .i64 l] 30)).alloc (.cells #[.int .i64 K, .int .i64 k, .int .i64 t, .string d] 161)) 30 #[.string ⟨#[]⟩, .string ⟨#[]⟩, .int .i64 0, .int .i64 0, .int .i64 0]
  have B1 : Below w.heap.size w (((w.alloc (.cells #[.string a, .string b, .int .i64 x, .int .i64 y, .int .i64 l] 30)).alloc (.cells #[.int .i64 K, .int .i64 k, .int .i64 t, .string d] 161)).alloc (.cells #[.string ⟨#[]⟩, .string ⟨#[]⟩, .int .i64 0, .int .i64 0, .int .i64 0] 30)) :=
    (((Below.refl _ w).alloc (Nat.le_refl _) _).alloc (by simp) _).alloc (by simp; omega) _
  rw [World.size_alloc, World.size_alloc] at kZ
  go_enter Tryz.func96, Tryz.ntmps96
  go_wp2_with (with_reducible refine (hDo _).mono ?_)
  rintro e w1 ⟨rfl, b1⟩
  generalize World.alloc (World.alloc (World.alloc w _) _) _ = W1 at *
  have kF2 := (kF.below b1 kF.lt).alloc (.cells #[.string a, .string b, .int .i64 x, .int .i64 y, .int .i64 l] 30)
  have kZ2 := (kZ.below b1 kZ.lt).alloc (.cells #[.string a, .string b, .int .i64 x, .int .i64 y, .int .i64 l] 30)
  have B2 := (bthen B1 b1).alloc (bthen B1 b1).size (.cells #[.string a, .string b, .int .i64 x, .int .i64 y, .int .i64 l] 30)
  clear kF kZ B1 b1
  have r0 := kZ2.cell 0
  have r1 := kZ2.cell 1
  have r2 := kZ2.cell 2
  have r3 := kZ2.cell 3
  have r4 := kZ2.cell 4
  have f0 := kZ2.frozen 0
  have f1 := kZ2.frozen 1
  have f2 := kZ2.frozen 2
  have f3 := kZ2.frozen 3
  have f4 := kZ2.frozen 4
  have q0 := kF2.cell 0
  have q1 := kF2.cell 1
  have q2 := kF2.cell 2
  have q3 := kF2.cell 3
  have q4 := kF2.cell 4
  simp at r0 r1 r2 r3 r4 q0 q1 q2 q3 q4
  go_wp2
  obtain ⟨g0, B6⟩ := five_stores (v0 := .string a) (v1 := .string b) (v2 := .int .i64 x) (v3 := .int .i64 y) (v4 := .int .i64 l) kZ2 B2 (by omega)
  have q0 := g0.cell 0
  have q1 := g0.cell 1
  have q2 := g0.cell 2
  have q3 := g0.cell 3
  have q4 := g0.cell 4
  simp only [List.getElem?_toArray, List.getElem?_cons_zero, List.getElem?_cons_succ] at q0 q1 q2 q3 q4
  generalize World.setCell (World.setCell (World.setCell (World.setCell (World.setCell _ _ _) _ _) _ _) _ _) _ _ = W6 at *
  exact bodyPost_ret (v := .tuple #[.agg #[.string a, .string b, .int .i64 x, .int .i64 y, .int .i64 l], .int .i64 E]) (by simp [results, Tryz.results96, go_sem, q0, q1, q2, q3, q4]) rfl ⟨rfl, B6⟩

theorem erE_of {f : Fl} {k : Int} (h : erE f k = 0) : (k = 0 ∨ k = 1) ∧ f.worn k < f.l := by
  unfold erE at h
  split at h
  · cases h
  · split at h
    · cases h
    · omega
theorem doE_of {f : Fl} {o : Oq} (h : doE f o = 0) : (o.kind = 1 ∧ pgE f o.bank o.at_ o.data = 0) ∨ (o.kind = 2 ∧ erE f o.bank = 0) := by
  unfold doE at h
  split at h
  · rename_i h1; exact .inl ⟨h1, h⟩
  · split at h
    · rename_i h1; exact .inr ⟨h1, h⟩
    · cases h
theorem midB_size (s u m : ByteArray) (i j : Nat) (h1 : i ≤ j) (h2 : j ≤ s.size) : (midB s u m i j).size = s.size := by
  unfold midB
  rw [ByteArray.size_append, ByteArray.size_append, tornB_size, ByteArray.size_extract, ByteArray.size_extract, ByteArray.size_extract]
  omega

theorem Tear_any (f : Fl) (hf : f.ok) (o : Oq) (ho : o.ok) (mask : ByteArray) (hm : mask.size ≤ 1000) (w : World) :
    Calls Tryz.prog 96 #[flV f, oqV o, .string mask] w fun e w' => e = .returned (.tuple #[flV (tearF f o mask), .int .i64 (doE f o)]) ∧ Below w.heap.size w w' := by
  have hDo := Do_any f hf o ho
  by_cases hE : doE f o = 0
  · have hF : tearF f o mask = (doF f o).put o.bank (tearS f o mask) := if_pos hE
    rw [hF]
    obtain ⟨a, b, x, y, l⟩ := f
    obtain ⟨K, k, t, d⟩ := o
    have hd := ho.hd
    have ha := hf.ha
    have hb := hf.hb
    rcases doE_of hE with ⟨h1, h2⟩ | ⟨h1, h2⟩
    · have h1' : K = 1 := h1
      subst h1'
      obtain ⟨hk, ht, hsz, _⟩ := pgE_of h2
      obtain ⟨t, rfl⟩ := Int.eq_ofNat_of_zero_le (show 0 ≤ t from ht)
      have eF : doF ⟨a, b, x, y, l⟩ ⟨1, k, (t : Int), d⟩ = Fl.put ⟨a, b, x, y, l⟩ k (progB (Fl.bank ⟨a, b, x, y, l⟩ k) t d) := by
        unfold doF; rw [if_pos rfl]; exact if_pos h2
      have eS : tearS ⟨a, b, x, y, l⟩ ⟨1, k, (t : Int), d⟩ mask = midB (Fl.bank ⟨a, b, x, y, l⟩ k) ((doF ⟨a, b, x, y, l⟩ ⟨1, k, (t : Int), d⟩).bank k) mask t (t + d.size) := if_neg (show ¬ ((1 : Int) = 2) by decide)
      rw [eS, hE]
      rw [hE] at hDo
      rw [eF, Fl.put_bank, Fl.put_put]
      rw [eF] at hDo
      have hsz2 : t + d.size ≤ (Fl.bank ⟨a, b, x, y, l⟩ k).size := by simp only at hsz; omega
      have hpz := progB_size (Fl.bank ⟨a, b, x, y, l⟩ k) d t hsz2
      have hkk : k = 0 ∨ k = 1 := hk
      rcases hkk with rfl | rfl
      · exact Tear_one0 a b d mask x y l _ b _ x y l t rfl (Nat.le_trans hsz2 (Nat.le_of_eq hpz.symm)) ha hm hsz2 hDo w
      · exact Tear_one1 a b d mask x y l a _ _ x y l t rfl (Nat.le_trans hsz2 (Nat.le_of_eq hpz.symm)) hb hm hsz2 hDo w
    · have h1' : K = 2 := h1
      subst h1'
      obtain ⟨hk, hw⟩ := erE_of h2
      have eF : doF ⟨a, b, x, y, l⟩ ⟨2, k, t, d⟩ = (Fl.put ⟨a, b, x, y, l⟩ k (fullB (Fl.bank ⟨a, b, x, y, l⟩ k).size)).wear k (Fl.worn ⟨a, b, x, y, l⟩ k + 1) := by
        unfold doF; rw [if_neg (show ¬ ((2 : Int) = 1) by decide), if_pos rfl]; exact if_pos h2
      have eS : tearS ⟨a, b, x, y, l⟩ ⟨2, k, t, d⟩ mask = midB ((doF ⟨a, b, x, y, l⟩ ⟨2, k, t, d⟩).bank k) (Fl.bank ⟨a, b, x, y, l⟩ k) (invB mask (Fl.bank ⟨a, b, x, y, l⟩ k).size) 0 (Fl.bank ⟨a, b, x, y, l⟩ k).size := if_pos rfl
      rw [eS, hE]
      rw [hE] at hDo
      rw [eF]
      rw [eF] at hDo
      have hkk : k = 0 ∨ k = 1 := hk
      rcases hkk with rfl | rfl
      · exact Tear_two0 a b d mask x y l (fullB a.size) b _ (x + 1) y l t rfl (by rw [fullB_size]; omega) (by rw [fullB_size]; exact ha) hm hd hDo w
      · exact Tear_two1 a b d mask x y l a (fullB b.size) _ x (y + 1) l t rfl (by rw [fullB_size]; omega) (by rw [fullB_size]; exact hb) hm hd hDo w
  · have hF : tearF f o mask = f := if_neg hE
    rw [hF]
    rw [doF_bad hE] at hDo
    exact Tear_bad f o mask _ (by simpa using hE) hDo w
end Go.Proofs.YtebkeocpojlepaaGreatDoor

/- power.Play: what it computes. -/
namespace Go.Proofs.YtebkeocpojlepaaGreatDoor
open Go.RowKit
set_option linter.unusedVariables false
set_option linter.unusedSimpArgs false

/-- ops in memory, at address ⟨b, o, none⟩ -/
def OpsA (w : World) (b o : Nat) (L : List Oq) : Prop := ∀ (i : Nat) (h : i < L.length),
  w.cell? ⟨b, o + i * 4, none⟩ = some (.int .i64 L[i].kind) ∧ w.cell? ⟨b, o + i * 4 + 1, none⟩ = some (.int .i64 L[i].bank) ∧ w.cell? ⟨b, o + i * 4 + 2, none⟩ = some (.int .i64 L[i].at_) ∧ w.cell? ⟨b, o + i * 4 + 3, none⟩ = some (.string L[i].data)
/-- a slice value is these ops -/
def OpsV (w : World) (v : Value) (L : List Oq) : Prop :=
  (v = .slice none 0 0 ∧ L = []) ∨ ∃ b o cap, v = .slice (some ⟨b, o, none⟩) L.length cap ∧ OpsA w b o L

theorem addr_add (b o n : Nat) : (⟨b, o, none⟩ : Addr).add n = ⟨b, o + n, none⟩ := by unfold Addr.add; split <;> simp_all

structure Pl where
  f : Fl
  n : Int
  e : Int
/-- ops from number i on -/
def playK (cut : Int) (mask : ByteArray) : Fl → List Oq → Nat → Pl
  | f, [], i => ⟨f, i, 0⟩
  | f, o :: L, i => if (i : Int) = cut then ⟨tearF f o mask, i, doE f o⟩ else if doE f o = 0 then playK cut mask (doF f o) L (i + 1) else ⟨f, i, doE f o⟩
theorem playK_nil (cut : Int) (mask : ByteArray) (f : Fl) (i : Nat) : playK cut mask f [] i = ⟨f, i, 0⟩ := rfl
theorem playK_cut {cut : Int} {mask : ByteArray} {f : Fl} {o : Oq} {L : List Oq} {i : Nat} (h : (i : Int) = cut) : playK cut mask f (o :: L) i = ⟨tearF f o mask, i, doE f o⟩ := if_pos h
theorem playK_on {cut : Int} {mask : ByteArray} {f : Fl} {o : Oq} {L : List Oq} {i : Nat} (h : ¬ (i : Int) = cut) (h2 : doE f o = 0) : playK cut mask f (o :: L) i = playK cut mask (doF f o) L (i + 1) := by
  rw [playK, if_neg h, if_pos h2]
theorem playK_err {cut : Int} {mask : ByteArray} {f : Fl} {o : Oq} {L : List Oq} {i : Nat} (h : ¬ (i : Int) = cut) (h2 : ¬ doE f o = 0) : playK cut mask f (o :: L) i = ⟨f, i, doE f o⟩ := by
  rw [playK, if_neg h, if_neg h2]
theorem doF_ok {f : Fl} (hf : f.ok) (o : Oq) : (doF f o).ok := by
  unfold doF; split
  · exact pgF_ok hf _ _ _
  · split
    · exact erF_ok hf _
    · exact hf
theorem drop_cons {L : List Oq} {k : Nat} (h : k < L.length) : L.drop k = L[k] :: L.drop (k + 1) := List.drop_eq_getElem_cons h

theorem OpsA.below {w w' : World} {b o B : Nat} {L : List Oq} (h : OpsA w b o L) (hb : Below B w w') (hB : b < B) : OpsA w' b o L := by
  intro i hi
  obtain ⟨h0, h1, h2, h3⟩ := h i hi
  exact ⟨(hb.cell (p := ⟨b, _, none⟩) hB).trans h0, (hb.cell (p := ⟨b, _, none⟩) hB).trans h1, (hb.cell (p := ⟨b, _, none⟩) hB).trans h2, (hb.cell (p := ⟨b, _, none⟩) hB).trans h3⟩
theorem OpsV.below {w w' : World} {v : Value} {L : List Oq} (h : OpsV w v L) (hb : Below w.heap.size w w') : OpsV w' v L := by
  rcases h with h | ⟨b, o, cap, hv, ha⟩
  · exact .inl h
  · refine .inr ⟨b, o, cap, hv, ?_⟩
    intro i hi
    have hlt : b < w.heap.size := World.block_lt_of_cell? w ⟨b, _, none⟩ (ha i hi).1
    exact ha.below hb hlt i hi

abbrev flC (g : Fl) : Array Value := #[.string g.a, .string g.b, .int .i64 g.x, .int .i64 g.y, .int .i64 g.l]
abbrev zC : Array Value := #[.string ⟨#[]⟩, .string ⟨#[]⟩, .int .i64 0, .int .i64 0, .int .i64 0]

/-- what holds at a label of Play: k ops are done, the flash is g -/
def PlayR (f : Fl) (L : List Oq) (cut : Int) (mask : ByteArray) (w : World) (l k : Nat) (g : Fl) (w' : World) : Prop :=
  k ≤ L.length ∧ g.ok ∧ playK cut mask f L 0 = playK cut mask g (L.drop k) k ∧ Blk w' w.heap.size 30 (flC g) ∧ Blk w' (w.heap.size + 1) 30 zC ∧ Below w.heap.size w w' ∧ (l = 0 ∨ l = 1 ∧ (k : Int) = cut ∧ k < L.length)
def PlayJ (f : Fl) (b o cap : Nat) (L : List Oq) (cut : Int) (mask : ByteArray) (w : World) (l : Nat) (a' : Act) (w' : World) : Prop :=
  ∃ (k : Nat) (g : Fl) (u11 u13 u14 u15 u16 u17 u18 u19 u20 u21 u22 u23 u24 u25 u26 u27 u28 u29 u30 u31 u32 u33 u34 u35 u36 u37 u38 u39 u40 u41 u42 u43 u44 u45 u46 u47 u48 u49 u50 : Value), PlayR f L cut mask w l k g w' ∧ a' = ⟨#[flV f, .slice (some ⟨b, o, none⟩) L.length cap, .int .i64 cut, .string mask, .pointer (some ⟨w.heap.size, 0, none⟩), undef, undef, undef, .pointer (some ⟨w.heap.size + 1, 0, none⟩), .int .i64 0, .int .i64 0, u11, .int .i64 (k : Int), u13, u14, u15, u16, u17, u18, u19, u20, u21, u22, u23, u24, u25, u26, u27, u28, u29, u30, u31, u32, u33, u34, u35, u36, u37, u38, u39, u40, u41, u42, u43, u44, u45, u46, u47, u48, u49, u50], []⟩
def PlayM (n : Nat) (l : Nat) (a' : Act) (_ : World) : Nat := 2 * (n - (intOf (a'.tmps.getD 12 undef)).toNat) + (1 - l)

/-- the scope of a body -/
def scopeOf : Code → Option Code
  | .scope c => some c
  | .seq a b => match scopeOf a with
    | some c => some c
    | none => scopeOf b
  | _ => none

set_option maxHeartbeats 4000000 in
theorem Play_pass (f : Fl) (b o cap : Nat) (L : List Oq) (hL : ∀ x ∈ L, x.ok) (hl : L.length ≤ 100) (cut : Int) (mask : ByteArray) (hm : mask.size ≤ 1000) (w : World) (hA : OpsA w b o L) (R : Pl) (HRR : Hid (R = playK cut mask f L 0))
    (body : Code) (hb : Tryz.f64.body = some body) (c : Code) (hc : scopeOf body = some c) :
    ∀ l a' w', PlayJ f b o cap L cut mask w l a' w' → ∃ rest, findLabel c l = some (Code.skip.seq rest) ∧ rest.wp Tryz.prog (marks (fun l' a1 w1 => PlayJ f b o cap L cut mask w l' a1 w1 ∧ PlayM L.length l' a1 w1 < PlayM L.length l a' w')
      (bodyPost Tryz.prog Tryz.f64 fun e w' => e = .returned (.tuple #[flV R.f, .int .i64 R.n, .int .i64 R.e]) ∧ Below w.heap.size w w')) a' w' := by
  obtain rfl := Option.some.inj (show some body = some _ from hb.symm)
  obtain rfl := Option.some.inj (show some c = some _ from hc.symm)
  intro l a' w' hJ
  unfold PlayJ at hJ
  obtain ⟨k, hJ⟩ := hJ
  obtain ⟨g, hJ⟩ := hJ
  obtain ⟨u11, hJ⟩ := hJ
  obtain ⟨u13, hJ⟩ := hJ
  obtain ⟨u14, hJ⟩ := hJ
  obtain ⟨u15, hJ⟩ := hJ
  obtain ⟨u16, hJ⟩ := hJ
  obtain ⟨u17, hJ⟩ := hJ
  obtain ⟨u18, hJ⟩ := hJ
  obtain ⟨u19, hJ⟩ := hJ
  obtain ⟨u20, hJ⟩ := hJ
  obtain ⟨u21, hJ⟩ := hJ
  obtain ⟨u22, hJ⟩ := hJ
  obtain ⟨u23, hJ⟩ := hJ
  obtain ⟨u24, hJ⟩ := hJ
  obtain ⟨u25, hJ⟩ := hJ
  obtain ⟨u26, hJ⟩ := hJ
  obtain ⟨u27, hJ⟩ := hJ
  obtain ⟨u28, hJ⟩ := hJ
  obtain ⟨u29, hJ⟩ := hJ
  obtain ⟨u30, hJ⟩ := hJ
  obtain ⟨u31, hJ⟩ := hJ
  obtain ⟨u32, hJ⟩ := hJ
  obtain ⟨u33, hJ⟩ := hJ
  obtain ⟨u34, hJ⟩ := hJ
  obtain ⟨u35, hJ⟩ := hJ
  obtain ⟨u36, hJ⟩ := hJ
  obtain ⟨u37, hJ⟩ := hJ
  obtain ⟨u38, hJ⟩ := hJ
  obtain ⟨u39, hJ⟩ := hJ
  obtain ⟨u40, hJ⟩ := hJ
  obtain ⟨u41, hJ⟩ := hJ
  obtain ⟨u42, hJ⟩ := hJ
  obtain ⟨u43, hJ⟩ := hJ
  obtain ⟨u44, hJ⟩ := hJ
  obtain ⟨u45, hJ⟩ := hJ
  obtain ⟨u46, hJ⟩ := hJ
  obtain ⟨u47, hJ⟩ := hJ
  obtain ⟨u48, hJ⟩ := hJ
  obtain ⟨u49, hJ⟩ := hJ
  obtain ⟨u50, hJ⟩ := hJ
  obtain ⟨⟨hk, hg, hP, kF, kZ, B, hl⟩, rfl⟩ := hJ
  rcases hl with rfl | ⟨rfl, hc, hkl⟩
  · refine ⟨_, rfl, ?_⟩
    by_cases hke : k = L.length
    · rw [hke, List.drop_length, playK_nil, ← hke] at hP
      have HP := Lib.hid (HRR.out.trans hP)
      clear hP HRR
      obtain ⟨n, hn⟩ : ∃ n, n = L.length := ⟨_, rfl⟩
      rw [← hn] at hke ⊢
      subst hke
      clear hn hL hA
      have s_0 := kF.cell 0
      have s_1 := kF.cell 1
      have s_2 := kF.cell 2
      have s_3 := kF.cell 3
      have s_4 := kF.cell 4
      simp at s_0 s_1 s_2 s_3 s_4
      have r_0 := kZ.cell 0
      have r_1 := kZ.cell 1
      have r_2 := kZ.cell 2
      have r_3 := kZ.cell 3
      have r_4 := kZ.cell 4
      simp at r_0 r_1 r_2 r_3 r_4
      have t_0 := kZ.frozen 0
      have t_1 := kZ.frozen 1
      have t_2 := kZ.frozen 2
      have t_3 := kZ.frozen 3
      have t_4 := kZ.frozen 4
      go_wp2
      (try rw [marks_ret])
      obtain ⟨g7, B7⟩ := five_stores (v0 := .string g.a) (v1 := .string g.b) (v2 := .int .i64 g.x) (v3 := .int .i64 g.y) (v4 := .int .i64 g.l) kZ B (by omega)
      have q_0 := g7.cell 0
      have q_1 := g7.cell 1
      have q_2 := g7.cell 2
      have q_3 := g7.cell 3
      have q_4 := g7.cell 4
      simp at q_0 q_1 q_2 q_3 q_4
      generalize World.setCell (World.setCell (World.setCell (World.setCell (World.setCell _ _ _) _ _) _ _) _ _) _ _ = W7 at *
      have hRe := HP.out
      subst hRe
      exact bodyPost_ret (v := .tuple #[.agg #[.string g.a, .string g.b, .int .i64 g.x, .int .i64 g.y, .int .i64 g.l], .int .i64 (k : Int), .int .i64 0]) (by simp [results, Tryz.results64, go_sem, q_0, q_1, q_2, q_3, q_4]) rfl ⟨rfl, B7⟩
    · have hkl : k < L.length := by omega
      have h1 : ((k : Int) == (L.length : Int)) = false := by simp; omega
      have h2 : decide (k = L.length) = false := by simp; omega
      have h2' : (k == L.length) = false := by simp; omega
      by_cases hc : (k : Int) = cut
      · have h3 : ((k : Int) == cut) = true := by simp [hc]
        have h4 : decide ((k : Int) = cut) = true := by simp [hc]
        have HC := Lib.hid hc
        have HPP := Lib.hid hP
        clear hc hP HRR hke
        go_wp2_with fail
        go_step3
        refine ⟨⟨k, g, u11, _, _, _, _, _, _, _, _, _, _, _, _, _, _, _, _, _, _, _, _, _, _, _, _, _, _, _, _, _, _, _, _, _, _, _, _, _, _, ⟨hk, hg, HPP.out, kF, kZ, B, .inr ⟨rfl, HC.out, hkl⟩⟩, rfl⟩, ?_⟩
        simp [PlayM, intOf]
      · have h3 : ((k : Int) == cut) = false := by simp [hc]
        have h4 : decide ((k : Int) = cut) = false := by simp [hc]
        have ho := hL L[k] (List.getElem_mem hkl)
        have hT := fun W => Do_any g hg L[k] ho W
        obtain ⟨c0, c1, c2, c3⟩ := hA k hkl
        have hlt : b < w.heap.size := World.block_lt_of_cell? w ⟨b, _, none⟩ c0
        rw [drop_cons hkl] at hP
        by_cases hE : doE g L[k] = 0
        · rw [playK_on hc hE] at hP
          have hgo := doF_ok hg L[k]
          have HP := Lib.hid (HRR.out.trans hP)
          rw [hE] at hT
          clear hP hc hke hE
          generalize doF g L[k] = T at *
          have HRQ := Lib.hid HRR.out
          have x0 : ∀ n : CalmW w'.heap.size w', n.val.cell? ⟨w.heap.size, 0, none⟩ = some (.string g.a) := fun n => ((kF.below n.below kF.lt).cell 0).trans (by simp)
          have x1 : ∀ n : CalmW w'.heap.size w', n.val.cell? ⟨w.heap.size, 1, none⟩ = some (.string g.b) := fun n => ((kF.below n.below kF.lt).cell 1).trans (by simp)
          have x2 : ∀ n : CalmW w'.heap.size w', n.val.cell? ⟨w.heap.size, 2, none⟩ = some (.int .i64 g.x) := fun n => ((kF.below n.below kF.lt).cell 2).trans (by simp)
          have x3 : ∀ n : CalmW w'.heap.size w', n.val.cell? ⟨w.heap.size, 3, none⟩ = some (.int .i64 g.y) := fun n => ((kF.below n.below kF.lt).cell 3).trans (by simp)
          have x4 : ∀ n : CalmW w'.heap.size w', n.val.cell? ⟨w.heap.size, 4, none⟩ = some (.int .i64 g.l) := fun n => ((kF.below n.below kF.lt).cell 4).trans (by simp)
          have hlw : ∀ n : CalmW w'.heap.size w', Below w.heap.size w n.val := fun n => B.trans (n.below.mono B.size)
          have y0 : ∀ n : CalmW w'.heap.size w', n.val.cell? ⟨b, o + k * 4, none⟩ = some (.int .i64 L[k].kind) := fun n => ((hlw n).cell (p := ⟨b, o + k * 4, none⟩) hlt).trans c0
          have y1 : ∀ n : CalmW w'.heap.size w', n.val.cell? ⟨b, o + k * 4 + 1, none⟩ = some (.int .i64 L[k].bank) := fun n => ((hlw n).cell (p := ⟨b, o + k * 4 + 1, none⟩) hlt).trans c1
          have y2 : ∀ n : CalmW w'.heap.size w', n.val.cell? ⟨b, o + k * 4 + 2, none⟩ = some (.int .i64 L[k].at_) := fun n => ((hlw n).cell (p := ⟨b, o + k * 4 + 2, none⟩) hlt).trans c2
          have y3 : ∀ n : CalmW w'.heap.size w', n.val.cell? ⟨b, o + k * 4 + 3, none⟩ = some (.string L[k].data) := fun n => ((hlw n).cell (p := ⟨b, o + k * 4 + 3, none⟩) hlt).trans c3
          have had : (⟨b, o, none⟩ : Addr).add (k * 4) = ⟨b, o + k * 4, none⟩ := by rw [addr_add]
          clear hlw c0 c1 c2 c3
          generalize L[k] = oo at *
          clear hL hA HRR
          go_wp2_with fail
          refine wp_region_calm_head w'.heap.size 7 4 #[true, true, true, true, true, true, true, false, false, false, false] (by kernel_rfl) (by kernel_rfl) rfl ?_
          simp only [List.take_succ_cons, List.take_zero]
          repeat (go_big_quiet_step ((with_reducible refine calm_of (Nat.le_refl _) (hT _))))
          refine wpQuiet_nil ?_
          intro W4 hw4
          obtain ⟨⟨W5, b4⟩, hw5⟩ := hw4
          obtain rfl : W4 = W5 := hw5
          refine wpAny_take (i := 7) rfl (by kernel_rfl) (by kernel_rfl) (by kernel_rfl) (fun _ _ _ h => h) (Or.inl ⟨by rfl, (by intro w; go_simp; with_reducible rfl)⟩) ?_
          refine wpAny_take (i := 8) rfl (by kernel_rfl) (by kernel_rfl) (by kernel_rfl) (fun _ _ _ h => h) (Or.inl ⟨by rfl, (by intro w; go_simp; with_reducible rfl)⟩) ?_
          have kF4 := kF.below b4 kF.lt
          have kZ4 := kZ.below b4 kZ.lt
          have B4 := B.trans (b4.mono B.size)
          clear b4 kF kZ B x0 x1 x2 x3 x4 y0 y1 y2 y3 had
          have s_0 := kF4.cell 0
          have s_1 := kF4.cell 1
          have s_2 := kF4.cell 2
          have s_3 := kF4.cell 3
          have s_4 := kF4.cell 4
          simp at s_0 s_1 s_2 s_3 s_4
          have t_0 := kF4.frozen 0
          have t_1 := kF4.frozen 1
          have t_2 := kF4.frozen 2
          have t_3 := kF4.frozen 3
          have t_4 := kF4.frozen 4
          refine wpAny_ready (rs := [9]) (by kernel_rfl) (by simp) ?_
          refine AllReady.cons rfl (fun K hK => ?_) AllReady.nil
          go_simp
          refine hK _ _ ?_
          clear hK K
          obtain ⟨g5, B5⟩ := five_stores (v0 := .string T.a) (v1 := .string T.b) (v2 := .int .i64 T.x) (v3 := .int .i64 T.y) (v4 := .int .i64 T.l) kF4 B4 (Nat.le_refl _)
          have kZ5 := ((((kZ4.other ⟨w.heap.size, 0, none⟩ (by show w.heap.size + 1 ≠ w.heap.size; omega) (.string T.a)).other ⟨w.heap.size, 1, none⟩ (by show w.heap.size + 1 ≠ w.heap.size; omega) (.string T.b)).other ⟨w.heap.size, 2, none⟩ (by show w.heap.size + 1 ≠ w.heap.size; omega) (.int .i64 T.x)).other ⟨w.heap.size, 3, none⟩ (by show w.heap.size + 1 ≠ w.heap.size; omega) (.int .i64 T.y)).other ⟨w.heap.size, 4, none⟩ (by show w.heap.size + 1 ≠ w.heap.size; omega) (.int .i64 T.l)
          generalize World.setCell (World.setCell (World.setCell (World.setCell (World.setCell W4 _ _) _ _) _ _) _ _) _ _ = W6 at *
          clear kF4 kZ4 B4 s_0 s_1 s_2 s_3 s_4 t_0 t_1 t_2 t_3 t_4
          refine wpAny_take (i := 10) rfl (by kernel_rfl) (by kernel_rfl) (by kernel_rfl) (fun _ _ _ h => h) (Or.inl ⟨by rfl, (by intro w; go_simp; with_reducible rfl)⟩) ?_
          refine wpAny_done (by kernel_rfl) ?_ _
          go_wp2_with fail
          go_step3
          refine ⟨⟨k + 1, T, _, _, _, _, _, _, _, _, _, _, _, _, _, _, _, _, _, _, _, _, _, _, _, _, _, _, _, _, _, _, _, _, _, _, _, _, _, _, _, ⟨hkl, hgo, HRQ.out.symm.trans HP.out, g5, kZ5, B5, .inl rfl⟩, rfl⟩, ?_⟩
          simp [PlayM, intOf]
          omega
        · have hbad := doF_bad hE
          rw [playK_err hc hE] at hP
          rw [hbad] at hT
          have HP := Lib.hid (HRR.out.trans hP)
          have hE2 : (doE g L[k] != 0) = true := by simpa using hE
          clear hP hc hke hE hbad
          generalize doE g L[k] = E at *
          obtain ⟨T, hTT⟩ : ∃ T, T = g := ⟨_, rfl⟩
          rw [← hTT] at HP
          replace hT : ∀ W, Calls Tryz.prog 95 #[flV g, oqV L[k]] W fun e w' => e = .returned (.tuple #[flV T, .int .i64 E]) ∧ Below W.heap.size W w' := by rw [hTT]; exact hT
          clear hTT
          have x0 : ∀ n : CalmW w'.heap.size w', n.val.cell? ⟨w.heap.size, 0, none⟩ = some (.string g.a) := fun n => ((kF.below n.below kF.lt).cell 0).trans (by simp)
          have x1 : ∀ n : CalmW w'.heap.size w', n.val.cell? ⟨w.heap.size, 1, none⟩ = some (.string g.b) := fun n => ((kF.below n.below kF.lt).cell 1).trans (by simp)
          have x2 : ∀ n : CalmW w'.heap.size w', n.val.cell? ⟨w.heap.size, 2, none⟩ = some (.int .i64 g.x) := fun n => ((kF.below n.below kF.lt).cell 2).trans (by simp)
          have x3 : ∀ n : CalmW w'.heap.size w', n.val.cell? ⟨w.heap.size, 3, none⟩ = some (.int .i64 g.y) := fun n => ((kF.below n.below kF.lt).cell 3).trans (by simp)
          have x4 : ∀ n : CalmW w'.heap.size w', n.val.cell? ⟨w.heap.size, 4, none⟩ = some (.int .i64 g.l) := fun n => ((kF.below n.below kF.lt).cell 4).trans (by simp)
          have hlw : ∀ n : CalmW w'.heap.size w', Below w.heap.size w n.val := fun n => B.trans (n.below.mono B.size)
          have y0 : ∀ n : CalmW w'.heap.size w', n.val.cell? ⟨b, o + k * 4, none⟩ = some (.int .i64 L[k].kind) := fun n => ((hlw n).cell (p := ⟨b, o + k * 4, none⟩) hlt).trans c0
          have y1 : ∀ n : CalmW w'.heap.size w', n.val.cell? ⟨b, o + k * 4 + 1, none⟩ = some (.int .i64 L[k].bank) := fun n => ((hlw n).cell (p := ⟨b, o + k * 4 + 1, none⟩) hlt).trans c1
          have y2 : ∀ n : CalmW w'.heap.size w', n.val.cell? ⟨b, o + k * 4 + 2, none⟩ = some (.int .i64 L[k].at_) := fun n => ((hlw n).cell (p := ⟨b, o + k * 4 + 2, none⟩) hlt).trans c2
          have y3 : ∀ n : CalmW w'.heap.size w', n.val.cell? ⟨b, o + k * 4 + 3, none⟩ = some (.string L[k].data) := fun n => ((hlw n).cell (p := ⟨b, o + k * 4 + 3, none⟩) hlt).trans c3
          have had : (⟨b, o, none⟩ : Addr).add (k * 4) = ⟨b, o + k * 4, none⟩ := by rw [addr_add]
          clear hlw c0 c1 c2 c3
          generalize L[k] = oo at *
          clear hL hA HRR
          go_wp2_with fail
          refine wp_region_calm_head w'.heap.size 7 4 #[true, true, true, true, true, true, true, false, false, false, false] (by kernel_rfl) (by kernel_rfl) rfl ?_
          simp only [List.take_succ_cons, List.take_zero]
          repeat (go_big_quiet_step ((with_reducible refine calm_of (Nat.le_refl _) (hT _))))
          refine wpQuiet_nil ?_
          intro W4 hw4
          obtain ⟨⟨W5, b4⟩, hw5⟩ := hw4
          obtain rfl : W4 = W5 := hw5
          refine wpAny_take (i := 7) rfl (by kernel_rfl) (by kernel_rfl) (by kernel_rfl) (fun _ _ _ h => h) (Or.inl ⟨by rfl, (by intro w; go_simp; with_reducible rfl)⟩) ?_
          refine wpAny_take (i := 8) rfl (by kernel_rfl) (by kernel_rfl) (by kernel_rfl) (fun _ _ _ h => h) (Or.inl ⟨by rfl, (by intro w; go_simp; with_reducible rfl)⟩) ?_
          have kF4 := kF.below b4 kF.lt
          have kZ4 := kZ.below b4 kZ.lt
          have B4 := B.trans (b4.mono B.size)
          clear b4 kF kZ B x0 x1 x2 x3 x4 y0 y1 y2 y3 had
          have s_0 := kF4.cell 0
          have s_1 := kF4.cell 1
          have s_2 := kF4.cell 2
          have s_3 := kF4.cell 3
          have s_4 := kF4.cell 4
          simp at s_0 s_1 s_2 s_3 s_4
          have t_0 := kF4.frozen 0
          have t_1 := kF4.frozen 1
          have t_2 := kF4.frozen 2
          have t_3 := kF4.frozen 3
          have t_4 := kF4.frozen 4
          refine wpAny_ready (rs := [9]) (by kernel_rfl) (by simp) ?_
          refine AllReady.cons rfl (fun K hK => ?_) AllReady.nil
          go_simp
          refine hK _ _ ?_
          clear hK K
          obtain ⟨g5, B5⟩ := five_stores (v0 := .string T.a) (v1 := .string T.b) (v2 := .int .i64 T.x) (v3 := .int .i64 T.y) (v4 := .int .i64 T.l) kF4 B4 (Nat.le_refl _)
          have kZ5 := ((((kZ4.other ⟨w.heap.size, 0, none⟩ (by show w.heap.size + 1 ≠ w.heap.size; omega) (.string T.a)).other ⟨w.heap.size, 1, none⟩ (by show w.heap.size + 1 ≠ w.heap.size; omega) (.string T.b)).other ⟨w.heap.size, 2, none⟩ (by show w.heap.size + 1 ≠ w.heap.size; omega) (.int .i64 T.x)).other ⟨w.heap.size, 3, none⟩ (by show w.heap.size + 1 ≠ w.heap.size; omega) (.int .i64 T.y)).other ⟨w.heap.size, 4, none⟩ (by show w.heap.size + 1 ≠ w.heap.size; omega) (.int .i64 T.l)
          generalize World.setCell (World.setCell (World.setCell (World.setCell (World.setCell W4 _ _) _ _) _ _) _ _) _ _ = W6 at *
          clear kF4 kZ4 B4 s_0 s_1 s_2 s_3 s_4 t_0 t_1 t_2 t_3 t_4
          refine wpAny_take (i := 10) rfl (by kernel_rfl) (by kernel_rfl) (by kernel_rfl) (fun _ _ _ h => h) (Or.inl ⟨by rfl, (by intro w; go_simp; with_reducible rfl)⟩) ?_
          refine wpAny_done (by kernel_rfl) ?_ _
          have s_0 := g5.cell 0
          have s_1 := g5.cell 1
          have s_2 := g5.cell 2
          have s_3 := g5.cell 3
          have s_4 := g5.cell 4
          simp at s_0 s_1 s_2 s_3 s_4
          have r_0 := kZ5.cell 0
          have r_1 := kZ5.cell 1
          have r_2 := kZ5.cell 2
          have r_3 := kZ5.cell 3
          have r_4 := kZ5.cell 4
          simp at r_0 r_1 r_2 r_3 r_4
          have t_0 := kZ5.frozen 0
          have t_1 := kZ5.frozen 1
          have t_2 := kZ5.frozen 2
          have t_3 := kZ5.frozen 3
          have t_4 := kZ5.frozen 4
          go_wp2
          (try rw [marks_ret])
          obtain ⟨g7, B7⟩ := five_stores (v0 := .string T.a) (v1 := .string T.b) (v2 := .int .i64 T.x) (v3 := .int .i64 T.y) (v4 := .int .i64 T.l) kZ5 B5 (by omega)
          have q_0 := g7.cell 0
          have q_1 := g7.cell 1
          have q_2 := g7.cell 2
          have q_3 := g7.cell 3
          have q_4 := g7.cell 4
          simp at q_0 q_1 q_2 q_3 q_4
          generalize World.setCell (World.setCell (World.setCell (World.setCell (World.setCell _ _ _) _ _) _ _) _ _) _ _ = W7 at *
          have hRe := HP.out
          subst hRe
          exact bodyPost_ret (v := .tuple #[.agg #[.string T.a, .string T.b, .int .i64 T.x, .int .i64 T.y, .int .i64 T.l], .int .i64 (k : Int), .int .i64 E]) (by simp [results, Tryz.results64, go_sem, q_0, q_1, q_2, q_3, q_4]) rfl ⟨rfl, B7⟩
  · refine ⟨_, rfl, ?_⟩
    have ho := hL L[k] (List.getElem_mem hkl)
    have hT := fun W => Tear_any g hg L[k] ho mask hm W
    obtain ⟨c0, c1, c2, c3⟩ := hA k hkl
    have hlt : b < w.heap.size := World.block_lt_of_cell? w ⟨b, _, none⟩ c0
    rw [drop_cons hkl, playK_cut hc] at hP
    have HP := Lib.hid (HRR.out.trans hP)
    clear hP hc
    generalize tearF g L[k] mask = T at *
    generalize doE g L[k] = E at *
    have x0 : ∀ n : CalmW w'.heap.size w', n.val.cell? ⟨w.heap.size, 0, none⟩ = some (.string g.a) := fun n => ((kF.below n.below kF.lt).cell 0).trans (by simp)
    have x1 : ∀ n : CalmW w'.heap.size w', n.val.cell? ⟨w.heap.size, 1, none⟩ = some (.string g.b) := fun n => ((kF.below n.below kF.lt).cell 1).trans (by simp)
    have x2 : ∀ n : CalmW w'.heap.size w', n.val.cell? ⟨w.heap.size, 2, none⟩ = some (.int .i64 g.x) := fun n => ((kF.below n.below kF.lt).cell 2).trans (by simp)
    have x3 : ∀ n : CalmW w'.heap.size w', n.val.cell? ⟨w.heap.size, 3, none⟩ = some (.int .i64 g.y) := fun n => ((kF.below n.below kF.lt).cell 3).trans (by simp)
    have x4 : ∀ n : CalmW w'.heap.size w', n.val.cell? ⟨w.heap.size, 4, none⟩ = some (.int .i64 g.l) := fun n => ((kF.below n.below kF.lt).cell 4).trans (by simp)
    have hlw : ∀ n : CalmW w'.heap.size w', Below w.heap.size w n.val := fun n => B.trans (n.below.mono B.size)
    have y0 : ∀ n : CalmW w'.heap.size w', n.val.cell? ⟨b, o + k * 4, none⟩ = some (.int .i64 L[k].kind) := fun n => ((hlw n).cell (p := ⟨b, o + k * 4, none⟩) hlt).trans c0
    have y1 : ∀ n : CalmW w'.heap.size w', n.val.cell? ⟨b, o + k * 4 + 1, none⟩ = some (.int .i64 L[k].bank) := fun n => ((hlw n).cell (p := ⟨b, o + k * 4 + 1, none⟩) hlt).trans c1
    have y2 : ∀ n : CalmW w'.heap.size w', n.val.cell? ⟨b, o + k * 4 + 2, none⟩ = some (.int .i64 L[k].at_) := fun n => ((hlw n).cell (p := ⟨b, o + k * 4 + 2, none⟩) hlt).trans c2
    have y3 : ∀ n : CalmW w'.heap.size w', n.val.cell? ⟨b, o + k * 4 + 3, none⟩ = some (.string L[k].data) := fun n => ((hlw n).cell (p := ⟨b, o + k * 4 + 3, none⟩) hlt).trans c3
    have had : (⟨b, o, none⟩ : Addr).add (k * 4) = ⟨b, o + k * 4, none⟩ := by rw [addr_add]
    clear hlw c0 c1 c2 c3
    generalize L[k] = oo at *
    clear hL hA HRR
    go_wp2_with fail
    refine wp_region_calm_head w'.heap.size 8 4 #[true, true, true, true, true, true, true, true, false, false, false, false] (by kernel_rfl) (by kernel_rfl) rfl ?_
    simp only [List.take_succ_cons, List.take_zero]
    repeat (go_big_quiet_step ((with_reducible refine calm_of (Nat.le_refl _) (hT _))))
    refine wpQuiet_nil ?_
    intro W4 hw4
    obtain ⟨⟨W5, b4⟩, hw5⟩ := hw4
    obtain rfl : W4 = W5 := hw5
    refine wpAny_take (i := 8) rfl (by kernel_rfl) (by kernel_rfl) (by kernel_rfl) (fun _ _ _ h => h) (Or.inl ⟨by rfl, (by intro w; go_simp; with_reducible rfl)⟩) ?_
    refine wpAny_take (i := 9) rfl (by kernel_rfl) (by kernel_rfl) (by kernel_rfl) (fun _ _ _ h => h) (Or.inl ⟨by rfl, (by intro w; go_simp; with_reducible rfl)⟩) ?_
    have kF4 := kF.below b4 kF.lt
    have kZ4 := kZ.below b4 kZ.lt
    have B4 := B.trans (b4.mono B.size)
    clear b4 kF kZ B x0 x1 x2 x3 x4 y0 y1 y2 y3 had
    have s_0 := kF4.cell 0
    have s_1 := kF4.cell 1
    have s_2 := kF4.cell 2
    have s_3 := kF4.cell 3
    have s_4 := kF4.cell 4
    simp at s_0 s_1 s_2 s_3 s_4
    have t_0 := kF4.frozen 0
    have t_1 := kF4.frozen 1
    have t_2 := kF4.frozen 2
    have t_3 := kF4.frozen 3
    have t_4 := kF4.frozen 4
    refine wpAny_ready (rs := [10]) (by kernel_rfl) (by simp) ?_
    refine AllReady.cons rfl (fun K hK => ?_) AllReady.nil
    go_simp
    refine hK _ _ ?_
    clear hK K
    obtain ⟨g5, B5⟩ := five_stores (v0 := .string T.a) (v1 := .string T.b) (v2 := .int .i64 T.x) (v3 := .int .i64 T.y) (v4 := .int .i64 T.l) kF4 B4 (Nat.le_refl _)
    have kZ5 := ((((kZ4.other ⟨w.heap.size, 0, none⟩ (by show w.heap.size + 1 ≠ w.heap.size; omega) (.string T.a)).other ⟨w.heap.size, 1, none⟩ (by show w.heap.size + 1 ≠ w.heap.size; omega) (.string T.b)).other ⟨w.heap.size, 2, none⟩ (by show w.heap.size + 1 ≠ w.heap.size; omega) (.int .i64 T.x)).other ⟨w.heap.size, 3, none⟩ (by show w.heap.size + 1 ≠ w.heap.size; omega) (.int .i64 T.y)).other ⟨w.heap.size, 4, none⟩ (by show w.heap.size + 1 ≠ w.heap.size; omega) (.int .i64 T.l)
    generalize World.setCell (World.setCell (World.setCell (World.setCell (World.setCell W4 _ _) _ _) _ _) _ _) _ _ = W6 at *
    clear kF4 kZ4 B4 s_0 s_1 s_2 s_3 s_4 t_0 t_1 t_2 t_3 t_4
    refine wpAny_take (i := 11) rfl (by kernel_rfl) (by kernel_rfl) (by kernel_rfl) (fun _ _ _ h => h) (Or.inl ⟨by rfl, (by intro w; go_simp; with_reducible rfl)⟩) ?_
    refine wpAny_done (by kernel_rfl) ?_ _
    have s_0 := g5.cell 0
    have s_1 := g5.cell 1
    have s_2 := g5.cell 2
    have s_3 := g5.cell 3
    have s_4 := g5.cell 4
    simp at s_0 s_1 s_2 s_3 s_4
    have r_0 := kZ5.cell 0
    have r_1 := kZ5.cell 1
    have r_2 := kZ5.cell 2
    have r_3 := kZ5.cell 3
    have r_4 := kZ5.cell 4
    simp at r_0 r_1 r_2 r_3 r_4
    have t_0 := kZ5.frozen 0
    have t_1 := kZ5.frozen 1
    have t_2 := kZ5.frozen 2
    have t_3 := kZ5.frozen 3
    have t_4 := kZ5.frozen 4
    go_wp2
    (try rw [marks_ret])
    obtain ⟨g7, B7⟩ := five_stores (v0 := .string T.a) (v1 := .string T.b) (v2 := .int .i64 T.x) (v3 := .int .i64 T.y) (v4 := .int .i64 T.l) kZ5 B5 (by omega)
    have q_0 := g7.cell 0
    have q_1 := g7.cell 1
    have q_2 := g7.cell 2
    have q_3 := g7.cell 3
    have q_4 := g7.cell 4
    simp at q_0 q_1 q_2 q_3 q_4
    generalize World.setCell (World.setCell (World.setCell (World.setCell (World.setCell _ _ _) _ _) _ _) _ _) _ _ = W7 at *
    have hRe := HP.out
    subst hRe
    exact bodyPost_ret (v := .tuple #[.agg #[.string T.a, .string T.b, .int .i64 T.x, .int .i64 T.y, .int .i64 T.l], .int .i64 (k : Int), .int .i64 E]) (by simp [results, Tryz.results64, go_sem, q_0, q_1, q_2, q_3, q_4]) rfl ⟨rfl, B7⟩
end Go.Proofs.YtebkeocpojlepaaGreatDoor

/- power.Play: its contract. -/
namespace Go.Proofs.YtebkeocpojlepaaGreatDoor
open Go.RowKit
set_option linter.unusedVariables false
set_option linter.unusedSimpArgs false

set_option maxHeartbeats 2000000 in
theorem Play_some (f : Fl) (hf : f.ok) (b o cap : Nat) (L : List Oq) (hL : ∀ x ∈ L, x.ok) (hl : L.length ≤ 100) (cut : Int) (mask : ByteArray) (hm : mask.size ≤ 1000) (w : World) (hA : OpsA w b o L) :
    Calls Tryz.prog 64 #[flV f, .slice (some ⟨b, o, none⟩) L.length cap, .int .i64 cut, .string mask] w fun e w' =>
      e = .returned (.tuple #[flV (playK cut mask f L 0).f, .int .i64 (playK cut mask f L 0).n, .int .i64 (playK cut mask f L 0).e]) ∧ Below w.heap.size w w' := by
  obtain ⟨R, hR⟩ : ∃ R, R = playK cut mask f L 0 := ⟨_, rfl⟩
  rw [← hR]
  have HRR := Lib.hid hR
  clear hR
  have k0 := (Blk.new w 30 (flC f)).alloc (.cells zC 30)
  have z0 := Blk.new (w.alloc (.cells (flC f) 30)) 30 zC
  rw [World.size_alloc] at z0
  have B0 : Below w.heap.size w ((w.alloc (.cells (flC f) 30)).alloc (.cells zC 30)) := ((Below.refl _ w).alloc (Nat.le_refl _) _).alloc (by simp) _
  have HR := Lib.hid (show PlayR f L cut mask w 0 0 f ((w.alloc (.cells (flC f) 30)).alloc (.cells zC 30)) from ⟨Nat.zero_le _, hf, rfl, k0, z0, B0, .inl rfl⟩)
  clear k0 z0 B0
  obtain ⟨body, hb⟩ : ∃ body, Tryz.f64.body = some body := ⟨_, rfl⟩
  obtain ⟨c, hc⟩ : ∃ c, scopeOf body = some c := by obtain rfl := Option.some.inj (show some body = some _ from hb.symm); exact ⟨_, rfl⟩
  have hpass := Play_pass f b o cap L hL hl cut mask hm w hA R HRR body hb c hc
  obtain rfl := Option.some.inj (show some body = some _ from hb.symm)
  obtain rfl := Option.some.inj (show some c = some _ from hc.symm)
  clear hb hc hA hL
  have HPS := Lib.hid hpass
  clear hpass
  go_enter Tryz.func64, Tryz.ntmps64
  go_wp2_with fail
  generalize World.alloc (World.alloc w _) _ = W0 at *
  refine wp_scope_marks (PlayJ f b o cap L cut mask w) (PlayM L.length) ?_ (fun l a w' hJ => by obtain ⟨r, h1, h2⟩ := HPS.out l a w' hJ; exact ⟨_, h1, wp_seq (wp_skip h2)⟩)
  go_wp2_with fail
  go_step3
  rename_i hK
  obtain ⟨rest, hf2, hr⟩ := HPS.out 0 ⟨#[flV f, .slice (some ⟨b, o, none⟩) L.length cap, .int .i64 cut, .string mask, .pointer (some ⟨w.heap.size, 0, none⟩), undef, undef, undef, .pointer (some ⟨w.heap.size + 1, 0, none⟩), .int .i64 0, .int .i64 0, .int .i64 0, .int .i64 ((0 : Nat) : Int), undef, undef, undef, undef, undef, undef, undef, undef, undef, undef, undef, undef, undef, undef, undef, undef, undef, undef, undef, undef, undef, undef, undef, undef, undef, undef, undef, undef, undef, undef, undef, undef, undef, undef, undef, undef, undef, undef], []⟩ W0 ⟨0, f, _, _, _, _, _, _, _, _, _, _, _, _, _, _, _, _, _, _, _, _, _, _, _, _, _, _, _, _, _, _, _, _, _, _, _, _, _, _, _, HR.out, rfl⟩
  obtain rfl : _ = rest := (Code.seq.inj (Option.some.inj hf2)).2
  refine hK _ _ ?_
  refine Code.wp_mono ?_ hr
  intro e a1 w1 hq
  match e, hq with
  | .normal, hq => exact hq
  | .exit id, hq => exact hq
  | .goto l', hq => exact hq.1
  | .ret, hq => exact hq
  | .panic ch, hq => exact hq
  | .outgrown, hq => exact hq

theorem Play_nil (f : Fl) (cut : Int) (mask : ByteArray) (w : World) :
    Calls Tryz.prog 64 #[flV f, .slice none 0 0, .int .i64 cut, .string mask] w fun e w' =>
      e = .returned (.tuple #[flV f, .int .i64 0, .int .i64 0]) ∧ Below w.heap.size w w' := by
  have k0 := (Blk.new w 30 (flC f)).alloc (.cells zC 30)
  have z0 := Blk.new (w.alloc (.cells (flC f) 30)) 30 zC
  rw [World.size_alloc] at z0
  have B0 : Below w.heap.size w ((w.alloc (.cells (flC f) 30)).alloc (.cells zC 30)) := ((Below.refl _ w).alloc (Nat.le_refl _) _).alloc (by simp) _
  go_enter Tryz.func64, Tryz.ntmps64
  go_wp2_with fail
  generalize World.alloc (World.alloc w _) _ = W0 at *
  go_step3
  go_wp2_with fail
  go_step3
  have s_0 := k0.cell 0
  have s_1 := k0.cell 1
  have s_2 := k0.cell 2
  have s_3 := k0.cell 3
  have s_4 := k0.cell 4
  simp at s_0 s_1 s_2 s_3 s_4
  have r_0 := z0.cell 0
  have r_1 := z0.cell 1
  have r_2 := z0.cell 2
  have r_3 := z0.cell 3
  have r_4 := z0.cell 4
  simp at r_0 r_1 r_2 r_3 r_4
  have t_0 := z0.frozen 0
  have t_1 := z0.frozen 1
  have t_2 := z0.frozen 2
  have t_3 := z0.frozen 3
  have t_4 := z0.frozen 4
  go_wp2
  (try rw [Exit.noGoto_ret])
  obtain ⟨g7, B7⟩ := five_stores (v0 := .string f.a) (v1 := .string f.b) (v2 := .int .i64 f.x) (v3 := .int .i64 f.y) (v4 := .int .i64 f.l) z0 B0 (by omega)
  have q_0 := g7.cell 0
  have q_1 := g7.cell 1
  have q_2 := g7.cell 2
  have q_3 := g7.cell 3
  have q_4 := g7.cell 4
  simp at q_0 q_1 q_2 q_3 q_4
  generalize World.setCell (World.setCell (World.setCell (World.setCell (World.setCell _ _ _) _ _) _ _) _ _) _ _ = W7 at *
  exact bodyPost_ret (v := .tuple #[.agg #[.string f.a, .string f.b, .int .i64 f.x, .int .i64 f.y, .int .i64 f.l], .int .i64 0, .int .i64 0]) (by simp [results, Tryz.results64, go_sem, q_0, q_1, q_2, q_3, q_4]) rfl ⟨rfl, B7⟩

theorem Play_any (f : Fl) (hf : f.ok) (v : Value) (L : List Oq) (hL : ∀ x ∈ L, x.ok) (hl : L.length ≤ 100) (cut : Int) (mask : ByteArray) (hm : mask.size ≤ 1000) (w : World) (hA : OpsV w v L) :
    Calls Tryz.prog 64 #[flV f, v, .int .i64 cut, .string mask] w fun e w' =>
      e = .returned (.tuple #[flV (playK cut mask f L 0).f, .int .i64 (playK cut mask f L 0).n, .int .i64 (playK cut mask f L 0).e]) ∧ Below w.heap.size w w' := by
  rcases hA with ⟨rfl, rfl⟩ | ⟨b, o, cap, rfl, ha⟩
  · exact Play_nil f cut mask w
  · exact Play_some f hf b o cap L hL hl cut mask hm w ha
end Go.Proofs.YtebkeocpojlepaaGreatDoor

/- Plain laws: what an op on a bank does to the bank's places. -/
namespace Go.Proofs.YtebkeocpojlepaaGreatDoor
set_option linter.unusedVariables false
set_option linter.unusedSimpArgs false

theorem fullB_at (n : Nat) (d : UInt8) (j : Nat) (h : j < n) : byteOr (fullB n) d j = 255 := by
  unfold byteOr fullB; simp [h]
theorem ext_sz (s : ByteArray) (i j : Nat) (h1 : i ≤ j) (h2 : j ≤ s.size) : (s.extract i j).size = j - i := by rw [ByteArray.size_extract]; omega
theorem midB_byte (s u m : ByteArray) (i j x : Nat) (h1 : i ≤ j) (h2 : j ≤ s.size) (h3 : j ≤ u.size) (hx : x < s.size) :
    byteOr (midB s u m i j) 0 x = if i ≤ x ∧ x < j then (byteOr s 0 x &&& ~~~(byteOr s 0 x &&& ~~~(byteOr u 0 x) &&& byteOr m 0 (x - i))) else byteOr s 0 x := by
  have z1 := ext_sz s 0 i (by omega) (by omega)
  have z2 : (tornB (s.extract i j) (u.extract i j) m).size = j - i := by rw [tornB_size]; exact ext_sz s i j h1 h2
  have z4 := ext_sz s i j h1 h2
  have z5 := ext_sz u i j h1 h3
  unfold midB
  rw [byteOr_app, byteOr_app, ByteArray.size_append, z1, z2]
  by_cases h : x < i
  · rw [if_pos (by omega), if_pos (by omega), if_neg (by omega), byteOr_ext _ _ _ _ _ (by omega) (by omega), Nat.zero_add]
  · by_cases h' : x < j
    · rw [if_pos (by omega), if_neg (by omega), if_pos ⟨by omega, h'⟩, tornB_byte _ _ _ _ _ (by omega), byteOr_ext _ _ _ _ _ (by omega) (by omega), byteOr_any (by omega) 255 0, byteOr_ext _ _ _ _ _ (by omega) (by omega), show i + (x - (i - 0)) = x by omega, Nat.sub_zero]
    · rw [if_neg (by omega), if_neg (by omega), byteOr_ext _ _ _ _ _ (by omega) (by omega), show j + (x - (i - 0 + (j - i))) = x by omega]

/-- the bytes of a place -/
theorem place_sz (s : ByteArray) (k m : Nat) (hs : s.size = 24 * (m + 1)) (hk : k ≤ m) : (place s k).size = 24 := by
  unfold place; rw [ext_sz _ _ _ (by omega) (by omega)]; omega
theorem place_byte (s : ByteArray) (k m j : Nat) (hs : s.size = 24 * (m + 1)) (hk : k ≤ m) (hj : j < 24) : byteOr (place s k) 0 j = byteOr s 0 (24 * k + j) := by
  unfold place; exact byteOr_ext _ _ _ _ _ (by omega) (by omega)

/-- what a program does to the places -/
theorem place_prog (s d : ByteArray) (k m o j : Nat) (hs : s.size = 24 * (m + 1)) (hk : k ≤ m) (ho : o + d.size ≤ 24) (hj : j ≤ m) :
    place (progB s (24 * k + o) d) j = if j = k then progB (place s k) o d else place s j := by
  have hz := progB_size s d (24 * k + o) (by omega)
  have hpk := place_sz s k m hs hk
  have hzp := progB_size (place s k) d o (by omega)
  have hp : (place (progB s (24 * k + o) d) j).size = 24 := place_sz _ j m (by omega) hj
  by_cases e : j = k
  · subst e
    rw [if_pos rfl]
    refine bytes_eq (by omega) fun x hx => ?_
    rw [place_byte _ _ m _ (by omega) hj (by omega), progB_byte _ _ _ (by omega) _ (by omega), progB_byte _ _ _ (by omega) _ (by omega), place_byte s j m x hs hj (by omega)]
    by_cases h : o ≤ x ∧ x < o + d.size
    · rw [if_pos (by omega), if_pos h, show 24 * j + x - (24 * j + o) = x - o by omega]
    · rw [if_neg (by omega), if_neg h]
  · rw [if_neg e]
    refine bytes_eq (by rw [hp, place_sz s j m hs hj]) fun x hx => ?_
    rw [place_byte _ _ m _ (by omega) hj (by omega), progB_byte _ _ _ (by omega) _ (by omega), place_byte s j m x hs hj (by omega), if_neg (by omega)]

/-- what a torn program does to the places -/
theorem place_torn (s d mask : ByteArray) (k m o j : Nat) (hs : s.size = 24 * (m + 1)) (hk : k ≤ m) (ho : o + d.size ≤ 24) (hj : j ≤ m) :
    place (midB s (progB s (24 * k + o) d) mask (24 * k + o) (24 * k + o + d.size)) j = if j = k then midB (place s k) (progB (place s k) o d) mask o (o + d.size) else place s j := by
  have hz := progB_size s d (24 * k + o) (by omega)
  have hpk := place_sz s k m hs hk
  have hzp := progB_size (place s k) d o (by omega)
  have hz2 := midB_size s (progB s (24 * k + o) d) mask (24 * k + o) (24 * k + o + d.size) (by omega) (by omega)
  have hzp2 := midB_size (place s k) (progB (place s k) o d) mask o (o + d.size) (by omega) (by omega)
  have hp : (place (midB s (progB s (24 * k + o) d) mask (24 * k + o) (24 * k + o + d.size)) j).size = 24 := place_sz _ j m (by omega) hj
  by_cases e : j = k
  · subst e
    rw [if_pos rfl]
    refine bytes_eq (by omega) fun x hx => ?_
    rw [place_byte _ _ m _ (by omega) hj (by omega), midB_byte _ _ _ _ _ _ (by omega) (by omega) (by omega) (by omega), midB_byte _ _ _ _ _ _ (by omega) (by omega) (by omega) (by omega),
      progB_byte _ _ _ (by omega) _ (by omega), progB_byte _ _ _ (by omega) _ (by omega), place_byte s j m x hs hj (by omega)]
    by_cases h : o ≤ x ∧ x < o + d.size
    · rw [if_pos (by omega), if_pos h, if_pos (by omega), if_pos h, show 24 * j + x - (24 * j + o) = x - o by omega]
    · rw [if_neg (by omega), if_neg h]
  · rw [if_neg e]
    refine bytes_eq (by rw [hp, place_sz s j m hs hj]) fun x hx => ?_
    rw [place_byte _ _ m _ (by omega) hj (by omega), midB_byte _ _ _ _ _ _ (by omega) (by omega) (by omega) (by omega), place_byte s j m x hs hj (by omega), if_neg (by omega)]

/-- a place that is written, step by step -/
theorem prog_body (b : ByteArray) (hb : b.size = 22) : progB (fullB 24) 0 b = b ++ fullB 2 := by
  have hz := fullB_size 24
  have h2 := fullB_size 2
  have hp := progB_size (fullB 24) b 0 (by omega)
  refine bytes_eq (by rw [ByteArray.size_append]; omega) fun x hx => ?_
  rw [progB_byte _ _ _ (by omega) _ (by omega), byteOr_app, fullB_at 24 0 x (by omega)]
  by_cases h : x < 22
  · rw [if_pos (by omega), if_pos (by omega), Nat.sub_zero, UInt8.and_comm, law_255, byteOr_any (by omega) 255 0]
  · rw [if_neg (by omega), if_neg (by omega), fullB_at 2 0 _ (by omega)]
theorem torn_body (b mask : ByteArray) (hb : b.size = 22) : (midB (fullB 24) (progB (fullB 24) 0 b) mask 0 (0 + b.size)).size = 24 ∧ ∀ x, 22 ≤ x → x < 24 → byteOr (midB (fullB 24) (progB (fullB 24) 0 b) mask 0 (0 + b.size)) 0 x = 255 := by
  have hz := fullB_size 24
  have hp := progB_size (fullB 24) b 0 (by omega)
  refine ⟨by rw [midB_size _ _ _ _ _ (by omega) (by omega), hz], fun x h1 h2 => ?_⟩
  rw [midB_byte _ _ _ _ _ _ (by omega) (by omega) (by omega) (by omega), if_neg (by omega), fullB_at 24 0 x (by omega)]
theorem prog_mark (b : ByteArray) (hb : b.size = 22) : progB (b ++ fullB 2) 22 ⟨#[90, 60]⟩ = b ++ ⟨#[90, 60]⟩ := by
  have h2 := fullB_size 2
  have hz : (b ++ fullB 2).size = 24 := by rw [ByteArray.size_append]; omega
  have hm : (⟨#[90, 60]⟩ : ByteArray).size = 2 := rfl
  have hp := progB_size (b ++ fullB 2) ⟨#[90, 60]⟩ 22 (by omega)
  refine bytes_eq (by rw [ByteArray.size_append]; omega) fun x hx => ?_
  rw [progB_byte _ _ _ (by omega) _ (by omega), byteOr_app, byteOr_app]
  by_cases h : x < 22
  · rw [if_neg (by omega), if_pos (by omega), if_pos (by omega)]
  · rw [if_pos (by omega), if_neg (by omega), if_neg (by omega), hb, fullB_at 2 0 _ (by omega), UInt8.and_comm, law_255, byteOr_any (by omega) 255 0]
theorem torn_mark (b mask : ByteArray) (hb : b.size = 22) : ∃ e : ByteArray, e.size = 2 ∧ midB (b ++ fullB 2) (progB (b ++ fullB 2) 22 ⟨#[90, 60]⟩) mask 22 (22 + (⟨#[90, 60]⟩ : ByteArray).size) = b ++ e := by
  have h2 := fullB_size 2
  have hz : (b ++ fullB 2).size = 24 := by rw [ByteArray.size_append]; omega
  have hm : (⟨#[90, 60]⟩ : ByteArray).size = 2 := rfl
  have hp := progB_size (b ++ fullB 2) ⟨#[90, 60]⟩ 22 (by omega)
  have hT := midB_size (b ++ fullB 2) (progB (b ++ fullB 2) 22 ⟨#[90, 60]⟩) mask 22 (22 + (⟨#[90, 60]⟩ : ByteArray).size) (by omega) (by omega)
  have hB : ∀ x, x < 22 → byteOr (midB (b ++ fullB 2) (progB (b ++ fullB 2) 22 ⟨#[90, 60]⟩) mask 22 (22 + (⟨#[90, 60]⟩ : ByteArray).size)) 0 x = byteOr b 0 x := by
    intro x hx
    rw [midB_byte _ _ _ _ _ _ (by omega) (by omega) (by omega) (by omega), if_neg (by omega), byteOr_app, if_pos (by omega)]
  generalize midB (b ++ fullB 2) (progB (b ++ fullB 2) 22 ⟨#[90, 60]⟩) mask 22 (22 + (⟨#[90, 60]⟩ : ByteArray).size) = T at *
  have he : (T.extract 22 24).size = 2 := ext_sz T 22 24 (by omega) (by omega)
  refine ⟨T.extract 22 24, he, bytes_eq (by rw [ByteArray.size_append]; omega) fun x hx => ?_⟩
  rw [byteOr_app]
  by_cases h : x < 22
  · rw [if_pos (by omega), hB x h]
  · rw [if_neg (by omega), byteOr_ext _ _ _ _ _ (by omega) (by omega), hb, show 22 + (x - 22) = x by omega]
end Go.Proofs.YtebkeocpojlepaaGreatDoor

/- Plain laws: what a bank says, and what it says behind an op. -/
namespace Go.Proofs.YtebkeocpojlepaaGreatDoor
set_option linter.unusedVariables false
set_option linter.unusedSimpArgs false

theorem placeN_of {s : ByteArray} {m : Nat} (hs : s.size = 24 * (m + 1)) (h1 : 1 ≤ m) (h2 : m ≤ 12) : placeN s = m + 1 := by
  unfold placeN; rw [if_pos (by omega)]; omega
theorem slot_place {s : ByteArray} {m : Nat} (hs : s.size = 24 * (m + 1)) (h1 : 1 ≤ m) (h2 : m ≤ 12) (j : Nat) (hj : j ≤ m) : slotS s (j : Int) = place s j :=
  slotS_nat s j (by rw [placeN_of hs h1 h2]; omega)
theorem slot_zero {s : ByteArray} {m : Nat} (hs : s.size = 24 * (m + 1)) (h1 : 1 ≤ m) (h2 : m ≤ 12) : slotS s 0 = place s 0 := slot_place hs h1 h2 0 (by omega)

/-- a place that can hold no good record, whatever of it becomes blank -/
def DeadP (X : ByteArray) : Prop := byteOr X 0 0 ≠ 165 ∨ (byteOr X 0 1).toNat < 1 ∨ 3 < (byteOr X 0 1).toNat ∨ byteOr X 0 22 ≠ 90 ∨ byteOr X 0 23 ≠ 60
theorem good_bytes (X : ByteArray) (h : decE X = 0) : byteOr X 0 0 = 165 ∧ 1 ≤ (byteOr X 0 1).toNat ∧ (byteOr X 0 1).toNat ≤ 3 ∧ byteOr X 0 22 = 90 ∧ byteOr X 0 23 = 60 ∧ decK X = (byteOr X 0 1).toNat := by
  obtain ⟨h0, h1, h2, h3, h4⟩ := dec_facts X h
  have hk : decK X = (byteAt X 1).toNat := by unfold decK; rw [h4]
  have e : ∀ j, (X.data.toList.drop 18).getD j 0 = X.data.toList.getD (18 + j) 0 := by intro j; simp only [List.getD_eq_getElem?_getD, List.getElem?_drop]
  have e4 := e 4
  have e5 := e 5
  rw [h1] at e4 e5
  exact ⟨h0, h2, h3, e4.symm, e5.symm, hk⟩
theorem dead_dec {X : ByteArray} (h : DeadP X) : decE X ≠ 0 := by
  intro e
  obtain ⟨a, b, c, d, f, _⟩ := good_bytes X e
  rcases h with h | h | h | h | h
  · exact h a
  · omega
  · omega
  · exact h d
  · exact h f
theorem state_dec {i : Int} {X : ByteArray} (h : stateP i X = 2) : decE X = 0 := by
  unfold stateP at h
  split at h
  · cases h
  split at h
  · cases h
  rename_i h2
  by_cases h0 : decE X = 0
  · exact h0
  · exact absurd (.inl h0) h2
theorem state_kind0 {X : ByteArray} (h : stateP 0 X = 2) : decK X = 1 := by
  unfold stateP at h
  split at h
  · cases h
  split at h
  · cases h
  rename_i h2
  by_cases h0 : decK X = 1
  · exact h0
  · exact absurd (.inr (.inl ⟨rfl, h0⟩)) h2
theorem dead_state {i : Int} {X : ByteArray} (h : DeadP X) : stateP i X ≠ 2 := fun e => dead_dec h (state_dec e)
theorem blank_full {X : ByteArray} (h : decE X = 5) : X = fullB 24 := by
  unfold decE dec at h
  split at h
  · cases h
  rename_i hz
  have hz : X.size = 24 := Decidable.of_not_not hz
  split at h
  · rename_i hb
    unfold blankS at hb
    rw [List.all_eq_true] at hb
    refine bytes_eq (by rw [fullB_size]; exact hz) fun j hj => ?_
    rw [fullB_at 24 0 j (by omega)]
    unfold byteOr
    have hl : X.data.toList.length = X.size := by simp
    rw [List.getD_eq_getElem?_getD, List.getElem?_eq_getElem (by omega)]
    have := hb _ (List.getElem_mem (l := X.data.toList) (n := j) (by omega))
    simpa using this
  · split at h
    · cases h
    · split at h
      · cases h
      · split at h
        · cases h
        · split at h <;> cases h
theorem state_blank {i : Int} {X : ByteArray} (h : stateP i X = 0) : X = fullB 24 := by
  unfold stateP at h
  split at h
  · rename_i h5; exact blank_full h5
  · split at h <;> cases h
theorem enc_state' (k : Int) (n d : Nat) (i : Int) (h2 : 1 ≤ k) (h3 : k ≤ 3) (hi : i = 0 ∧ k = 1 ∨ i ≠ 0 ∧ k ≠ 1) (hn : n < 18446744073709551616) (hd : d < 18446744073709551616) :
    stateP i (encB k n d) = 2 ∧ decN (encB k n d) = n ∧ decD (encB k n d) = d := by
  unfold stateP decE decK decN decD
  rw [dec_enc k n d h2 h3 hn hd]
  refine ⟨?_, rfl, rfl⟩
  rw [if_neg (by simp), if_neg]
  show ¬ ((0 : Int) ≠ 0 ∨ (i = 0 ∧ k.toNat ≠ 1) ∨ (i ≠ 0 ∧ k.toNat = 1))
  omega

/-- a bank says: its header's number, its last record's number and data -/
structure Says (s : ByteArray) (g q d : Nat) : Prop where
  hd : stateP 0 (place s 0) = 2
  gen : decN (place s 0) = g
  e : oE (lastS s) = 0
  n : oN s (lastS s) = q
  dat : oD s (lastS s) = d
/-- a bank that says nothing, or something elder -/
def Low (g : Nat) (s : ByteArray) : Prop := DeadP (place s 0) ∨ (stateP 0 (place s 0) = 2 ∧ decN (place s 0) < g)

theorem lastV_inj {s t : ByteArray} (h : lastV t = lastV s) : oN t (lastS t) = oN s (lastS s) ∧ oD t (lastS t) = oD s (lastS s) ∧ oE (lastS t) = oE (lastS s) := by
  unfold lastV at h
  simp at h
  have a := h.1.2.1
  have b := h.1.2.2
  exact ⟨by omega, by omega, h.2⟩

theorem app_says {s t : ByteArray} {m k g q d : Nat} (hs : s.size = 24 * (m + 1)) (h1 : 1 ≤ m) (h12 : m ≤ 12) (ht : t.size = s.size) (hk : nextS s = (k : Int)) (hk1 : 1 ≤ k)
    (ho : ∀ j, j ≤ m → j ≠ k → place t j = place s j) (S : Says s g q d) :
    (stateP (k : Int) (place t k) ≠ 2 → Says t g q d) ∧ (∀ dd, q + 1 < 18446744073709551616 → dd < 18446744073709551616 → place t k = encB 2 (q + 1) dd → Says t g (q + 1) dd) := by
  have hN := placeN_of hs h1 h12
  have hNt := placeN_of (ht.trans hs) h1 h12
  obtain ⟨hkm, hz⟩ := next_zero hN hk hk1
  have W : Swap s t (place t k) k m := ⟨hN, hNt, ht, slot_place (ht.trans hs) h1 h12 k hkm, fun j hj hne => by rw [slot_place (ht.trans hs) h1 h12 j hj, slot_place hs h1 h12 j hj]; exact ho j hj hne⟩
  have h0 := ho 0 (by omega) (by omega)
  refine ⟨fun hX => ?_, fun dd hq hdd hX => ?_⟩
  · obtain ⟨a, b, c⟩ := lastV_inj (swap_dirt W hk1 hk hX)
    exact ⟨by rw [h0]; exact S.hd, by rw [h0]; exact S.gen, c.trans S.e, a.trans S.n, b.trans S.dat⟩
  · obtain ⟨e1, e2, e3⟩ := enc_state' 2 (q + 1) dd (k : Int) (by decide) (by decide) (.inr ⟨by omega, by decide⟩) hq hdd
    have := swap_new W hk1 hk (by rw [hX]; exact e1) (fun _ => by rw [hX, e2, S.n]; omega)
    rw [hX, e2, e3] at this
    unfold lastV at this
    simp at this
    have a := this.1.2.1
    have b := this.1.2.2
    exact ⟨by rw [h0]; exact S.hd, by rw [h0]; exact S.gen, this.2, by omega, by omega⟩

theorem new_says {t : ByteArray} {m g q d : Nat} (ht : t.size = 24 * (m + 1)) (h1 : 1 ≤ m) (h12 : m ≤ 12) (hg : g < 18446744073709551616) (hq : q < 18446744073709551616) (hd : d < 18446744073709551616)
    (p0 : place t 0 = encB 1 g 0) (p1 : place t 1 = encB 3 q d) (pz : ∀ j, 2 ≤ j → j ≤ m → place t j = fullB 24) : Says t g q d := by
  have hN := placeN_of ht h1 h12
  obtain ⟨a1, a2, a3⟩ := enc_state' 1 g 0 0 (by decide) (by decide) (.inl ⟨rfl, rfl⟩) hg (by decide)
  obtain ⟨b1, b2, b3⟩ := enc_state' 3 q d 1 (by decide) (by decide) (.inr ⟨by decide, by decide⟩) hq hd
  have s1 : slotS t ((0 : Nat) + 1 : Int) = place t 1 := slot_place ht h1 h12 1 h1
  have e1 : lastK t 1 = some 1 := lastK_first (by unfold stateS; rw [s1, p1]; exact b1) rfl
  have e2 : lastS t = some 1 := by
    unfold lastS
    rw [hN, show m + 1 - 1 = m by omega, lastK_tail (a := 1) h1 (fun j h2 h3 => ?_), e1]
    unfold stateS
    have := slot_place ht h1 h12 (j + 1) (by omega)
    rw [show ((j + 1 : Nat) : Int) = (j : Int) + 1 by omega] at this
    rw [this, pz (j + 1) (by omega) (by omega), stateP_full]; decide
  refine ⟨by rw [p0]; exact a1, by rw [p0]; exact a2, by rw [e2]; rfl, ?_, ?_⟩
  · rw [e2]; show decN (slotS t ((1 : Nat) : Int)) = q
    rw [slot_place ht h1 h12 1 h1, p1, b2]
  · rw [e2]; show decD (slotS t ((1 : Nat) : Int)) = d
    rw [slot_place ht h1 h12 1 h1, p1, b3]

theorem full_dead : DeadP (fullB 24) := .inl (by rw [fullB_at 24 0 0 (by decide)]; decide)
theorem tail_dead {X : ByteArray} (h : byteOr X 0 22 = 255) : DeadP X := .inr (.inr (.inr (.inl (by rw [h]; decide))))
theorem place_full (m j : Nat) (hj : j ≤ m) : place (fullB (24 * (m + 1))) j = fullB 24 := by
  unfold place; rw [full_ext _ _ _ (by omega)]; congr 1; omega
/-- bytes that become blank leave a dead place dead -/
theorem blank_dead {X Y : ByteArray} (h : DeadP X) (hb : ∀ j, j < 24 → byteOr Y 0 j = byteOr X 0 j ∨ byteOr Y 0 j = 255) : DeadP Y := by
  rcases h with h | h | h | h | h
  · refine .inl ?_; rcases hb 0 (by decide) with e | e <;> rw [e]; exact h; decide
  · rcases hb 1 (by decide) with e | e
    · refine .inr (.inl ?_); rw [e]; exact h
    · refine .inr (.inr (.inl ?_)); rw [e]; decide
  · refine .inr (.inr (.inl ?_)); rcases hb 1 (by decide) with e | e <;> rw [e]; exact h; decide
  · refine .inr (.inr (.inr (.inl ?_))); rcases hb 22 (by decide) with e | e <;> rw [e]; exact h; decide
  · refine .inr (.inr (.inr (.inr ?_))); rcases hb 23 (by decide) with e | e <;> rw [e]; exact h; decide
/-- a header that is killed -/
theorem kill_dead (H : ByteArray) (hz : H.size = 24) : DeadP (progB H 0 ⟨#[0, 0]⟩) := by
  refine .inl ?_
  have hm : (⟨#[0, 0]⟩ : ByteArray).size = 2 := rfl
  rw [progB_byte _ _ _ (by omega) _ (by omega), if_pos (by omega), show byteOr ⟨#[0, 0]⟩ 255 (0 - 0) = 0 from rfl]
  simp
theorem kill_torn (H mask : ByteArray) (hz : H.size = 24) (hg : stateP 0 H = 2) : midB H (progB H 0 ⟨#[0, 0]⟩) mask 0 (0 + (⟨#[0, 0]⟩ : ByteArray).size) = H ∨ DeadP (midB H (progB H 0 ⟨#[0, 0]⟩) mask 0 (0 + (⟨#[0, 0]⟩ : ByteArray).size)) := by
  have hm : (⟨#[0, 0]⟩ : ByteArray).size = 2 := rfl
  have hp := progB_size H ⟨#[0, 0]⟩ 0 (by omega)
  obtain ⟨a, b, c, d, f, e⟩ := good_bytes H (state_dec hg)
  have hk := state_kind0 hg
  have b1 : byteOr H 0 1 = 1 := UInt8.toNat_inj.1 (by rw [← e, hk]; rfl)
  have hT := midB_size H (progB H 0 ⟨#[0, 0]⟩) mask 0 (0 + (⟨#[0, 0]⟩ : ByteArray).size) (by omega) (by omega)
  have t1 := midB_byte H (progB H 0 ⟨#[0, 0]⟩) mask 0 (0 + (⟨#[0, 0]⟩ : ByteArray).size) 1 (by omega) (by omega) (by omega) (by omega)
  rw [if_pos (by omega), b1] at t1
  have tx : ∀ x, 2 ≤ x → x < 24 → byteOr (midB H (progB H 0 ⟨#[0, 0]⟩) mask 0 (0 + (⟨#[0, 0]⟩ : ByteArray).size)) 0 x = byteOr H 0 x := fun x h2 h24 => by
    rw [midB_byte H _ mask 0 _ x (by omega) (by omega) (by omega) (by omega), if_neg (by omega)]
  generalize midB H (progB H 0 ⟨#[0, 0]⟩) mask 0 (0 + (⟨#[0, 0]⟩ : ByteArray).size) = T at *
  generalize ~~~((1 : UInt8) &&& ~~~(byteOr (progB H 0 ⟨#[0, 0]⟩) 0 1) &&& byteOr mask 0 (1 - 0)) = y at t1
  have t1' : (byteOr T 0 1).toNat = y.toNat % 2 := by rw [t1, UInt8.toNat_and, Nat.and_comm, show (1 : UInt8).toNat = 1 from rfl, Nat.and_one_is_mod]
  by_cases h0 : byteOr T 0 0 = 165
  · by_cases h1 : byteOr T 0 1 = 1
    · left
      refine bytes_eq (by omega) fun x hx => ?_
      rcases Nat.lt_or_ge x 2 with h | h
      · rcases (show x = 0 ∨ x = 1 by omega) with rfl | rfl
        · rw [h0, a]
        · rw [h1, b1]
      · exact tx x h (by omega)
    · right
      refine .inr (.inl ?_)
      have hne : (byteOr T 0 1).toNat ≠ 1 := fun e => h1 (UInt8.toNat_inj.1 e)
      omega
  · exact .inr (.inl h0)
theorem mark_dead {b e : ByteArray} (hb : b.size = 22) (he : e.size = 2) : e = ⟨#[90, 60]⟩ ∨ DeadP (b ++ e) := by
  by_cases h0 : byteOr e 0 0 = 90
  · by_cases h1 : byteOr e 0 1 = 60
    · left
      refine bytes_eq he fun x hx => ?_
      rcases (show x = 0 ∨ x = 1 by omega) with rfl | rfl
      · exact h0
      · exact h1
    · right
      refine .inr (.inr (.inr (.inr ?_)))
      rw [byteOr_app, if_neg (by omega), hb]; exact h1
  · right
    refine .inr (.inr (.inr (.inl ?_)))
    rw [byteOr_app, if_neg (by omega), hb]; exact h0
theorem body_dead (b : ByteArray) (hb : b.size = 22) : DeadP (b ++ fullB 2) := tail_dead (by rw [byteOr_app, if_neg (by omega), hb]; exact fullB_at 2 0 0 (by decide))
end Go.Proofs.YtebkeocpojlepaaGreatDoor
