/- Contracts and plain laws, put together: Flash, FlashM, FlashP, FlashN, Power, Odd, OddW, Inv, InvW, Tear, FlashEq. -/
import Derived.Test.YtebkeocpojlepaaGreatDoorG13
import Derived.Test.YtebkeocpojlepaaGreatDoorG18
import Derived.Test.YtebkeocpojlepaaGreatDoorG05
import Derived.Test.YtebkeocpojlepaaGreatDoorG07
/- flash.Read, Program, Erase: what they answer. -/
namespace Go.Proofs.YtebkeocpojlepaaGreatDoor
open Go.RowKit
set_option linter.unusedVariables false
set_option linter.unusedSimpArgs false

theorem self_stores {w W3 : World} {A B base : Nat} {t t' : TypeId} {v0 v1 v2 v3 v4 v5 : Value} (e0 : Blk W3 A t #[v0, v1, v2, v3, v4]) (e1 : Blk W3 B t' #[v5]) (hAB : A ≠ B) (hb : Below base w W3) (hA : base ≤ A) (hB : base ≤ B) :
    Blk ((((((W3.setCell ⟨A, 0, none⟩ v0).setCell ⟨A, 1, none⟩ v1).setCell ⟨A, 2, none⟩ v2).setCell ⟨A, 3, none⟩ v3).setCell ⟨A, 4, none⟩ v4).setCell ⟨B, 0, none⟩ v5) A t #[v0, v1, v2, v3, v4] ∧
    Blk ((((((W3.setCell ⟨A, 0, none⟩ v0).setCell ⟨A, 1, none⟩ v1).setCell ⟨A, 2, none⟩ v2).setCell ⟨A, 3, none⟩ v3).setCell ⟨A, 4, none⟩ v4).setCell ⟨B, 0, none⟩ v5) B t' #[v5] ∧
    Below base w ((((((W3.setCell ⟨A, 0, none⟩ v0).setCell ⟨A, 1, none⟩ v1).setCell ⟨A, 2, none⟩ v2).setCell ⟨A, 3, none⟩ v3).setCell ⟨A, 4, none⟩ v4).setCell ⟨B, 0, none⟩ v5) :=
  ⟨by simpa using (((((e0.set 0 v0).set 1 v1).set 2 v2).set 3 v3).set 4 v4).other ⟨B, 0, none⟩ hAB v5,
   by simpa using (((((e1.other ⟨A, 0, none⟩ (Ne.symm hAB) v0).other ⟨A, 1, none⟩ (Ne.symm hAB) v1).other ⟨A, 2, none⟩ (Ne.symm hAB) v2).other ⟨A, 3, none⟩ (Ne.symm hAB) v3).other ⟨A, 4, none⟩ (Ne.symm hAB) v4).set 0 v5,
   (((((hb.setCell (p := ⟨A, 0, none⟩) hA v0).setCell (p := ⟨A, 1, none⟩) hA v1).setCell (p := ⟨A, 2, none⟩) hA v2).setCell (p := ⟨A, 3, none⟩) hA v3).setCell (p := ⟨A, 4, none⟩) hA v4).setCell (p := ⟨B, 0, none⟩) hB v5⟩


theorem Program_bad (a b d : ByteArray) (x y l k t E : Int) (w : World)
    (hcut : ∀ W, Calls Tryz.prog 138 #[flashV a b x y l, .int .i64 k, .int .i64 t, .int .i64 (d.size : Int)] W fun e w' => e = .panicked [{ v := .iface 40 (.int .i64 E), recovered := false }] ∧ Below W.heap.size W w') :
    Calls Tryz.prog 117 #[flashV a b x y l, .int .i64 k, .int .i64 t, .string d] w fun e w' =>
      e = .returned (.tuple #[flashV a b x y l, .int .i64 E]) ∧ Below w.heap.size w w' := by
  go_enter_defers Tryz.func117, Tryz.ntmps117
  go_wp2_with (with_reducible refine (hcut _).mono ?_)
  rintro e w1 ⟨rfl, b1⟩
  have k0 := (Blk.new (w.alloc (.cells (flashC a b x y l) 30)) 30 (flashC a b x y l)).alloc (.cells #[.int .i64 0] 40)
  have k1 := Blk.new ((w.alloc (.cells (flashC a b x y l) 30)).alloc (.cells (flashC a b x y l) 30)) 40 #[.int .i64 0]
  have B1 : Below w.heap.size w (((w.alloc (.cells (flashC a b x y l) 30)).alloc (.cells (flashC a b x y l) 30)).alloc (.cells #[.int .i64 0] 40)) := (((Below.refl _ w).alloc (Nat.le_refl _) _).alloc (by simp) _).alloc (by simp; omega) _
  simp only [World.size_alloc] at k0 k1
  have c0 := k0.below b1 k0.lt
  have c1 := k1.below b1 k1.lt
  have B2 := bthen B1 b1
  clear k0 k1 B1 b1
  go_wp2
  refine leaves_cons (f := 137) (args := #[.pointer (some ⟨w.heap.size + 1 + 1, 0, none⟩)]) (by simp) (by simp [go_sem]) ?_
  refine (caught_panicking ⟨w.heap.size + 1 + 1, 0, none⟩ 0 E [] _ (c1.cell 0) (c1.frozen 0)).mono ?_
  rintro e u' w2 ⟨rfl, rfl, rfl⟩
  have k3 := (c1.set 0 (.int .i64 E)).cell 0
  have k4 := c0.other ⟨w.heap.size + 1 + 1, 0, none⟩ (by simp) (.int .i64 E)
  have B3 := B2.setCell (p := ⟨w.heap.size + 1 + 1, 0, none⟩) (by simp; omega) (.int .i64 E)
  generalize w1.setCell ⟨w.heap.size + 1 + 1, 0, none⟩ (.int .i64 E) = w3 at *
  have r0 := k4.cell 0
  have r1 := k4.cell 1
  have r2 := k4.cell 2
  have r3 := k4.cell 3
  have r4 := k4.cell 4
  simp at k3 r0 r1 r2 r3 r4
  simp [Leaves, settle, results, Tryz.results117, go_sem, k3, r0, r1, r2, r3, r4]
  exact B3

/-- what is programmed: the new bytes of the bank -/
def progB (s : ByteArray) (t : Nat) (d : ByteArray) : ByteArray := s.extract 0 t ++ andB (s.extract t (t + d.size)) d ++ s.extract (t + d.size) s.size

theorem Program_align (a b d : ByteArray) (x y l : Int) (t : Nat) (k : Int) (s : ByteArray) (hk : (k = 0 ∧ s = a) ∨ (k = 1 ∧ s = b)) (h : t + d.size ≤ s.size) (hs : s.size ≤ 1000)
    (hpar : (bits .and .i64 (bits .or .i64 (t : Int) (d.size : Int)) 1 != 0) = true) (w : World) :
    Calls Tryz.prog 117 #[flashV a b x y l, .int .i64 k, .int .i64 (t : Int), .string d] w fun e w' =>
      e = .returned (.tuple #[flashV a b x y l, .int .i64 3]) ∧ Below w.heap.size w w' := by
  go_enter_defers Tryz.func117, Tryz.ntmps117
  go_wp2_with (with_reducible refine (cut_ok a b x y l t d.size k s hk h hs _).mono ?_)
  rintro e w1 ⟨rfl, b1⟩
  have k0 := (Blk.new (w.alloc (.cells (flashC a b x y l) 30)) 30 (flashC a b x y l)).alloc (.cells #[.int .i64 0] 40)
  have k1 := Blk.new ((w.alloc (.cells (flashC a b x y l) 30)).alloc (.cells (flashC a b x y l) 30)) 40 #[.int .i64 0]
  have B1 : Below w.heap.size w (((w.alloc (.cells (flashC a b x y l) 30)).alloc (.cells (flashC a b x y l) 30)).alloc (.cells #[.int .i64 0] 40)) := (((Below.refl _ w).alloc (Nat.le_refl _) _).alloc (by simp) _).alloc (by simp; omega) _
  simp only [World.size_alloc] at k0 k1
  have c0 := k0.below b1 k0.lt
  have c1 := k1.below b1 k1.lt
  have B2 := bthen B1 b1
  clear k0 k1 B1 b1
  generalize s.extract 0 t = X1 at *
  generalize s.extract t (t + d.size) = X2 at *
  generalize s.extract (t + d.size) s.size = X3 at *
  go_wp2
  refine leaves_cons (f := 137) (args := #[.pointer (some ⟨w.heap.size + 1 + 1, 0, none⟩)]) (by simp) (by simp [go_sem]) ?_
  refine (caught_panicking ⟨w.heap.size + 1 + 1, 0, none⟩ 0 3 [] _ (c1.cell 0) (c1.frozen 0)).mono ?_
  rintro e u' w2 ⟨rfl, rfl, rfl⟩
  have k3 := (c1.set 0 (.int .i64 3)).cell 0
  have k4 := c0.other ⟨w.heap.size + 1 + 1, 0, none⟩ (by simp) (.int .i64 3)
  have B3 := B2.setCell (p := ⟨w.heap.size + 1 + 1, 0, none⟩) (by simp; omega) (.int .i64 3)
  generalize w1.setCell ⟨w.heap.size + 1 + 1, 0, none⟩ (.int .i64 3) = w3 at *
  have r0 := k4.cell 0
  have r1 := k4.cell 1
  have r2 := k4.cell 2
  have r3 := k4.cell 3
  have r4 := k4.cell 4
  simp at k3 r0 r1 r2 r3 r4
  simp [Leaves, settle, results, Tryz.results117, go_sem, k3, r0, r1, r2, r3, r4]
  exact B3

set_option maxHeartbeats 1000000 in
theorem Program_ok (a b d : ByteArray) (x y l : Int) (t : Nat) (k : Int) (s P a' b' : ByteArray) (hk : (k = 0 ∧ a = s ∧ P = a' ∧ b = b') ∨ (k = 1 ∧ b = s ∧ a = a' ∧ P = b')) (hP : P = progB s t d) (h : t + d.size ≤ s.size) (hs : s.size ≤ 1000)
    (hpar : (bits .and .i64 (bits .or .i64 (t : Int) (d.size : Int)) 1 != 0) = false) (w : World) :
    Calls Tryz.prog 117 #[flashV a b x y l, .int .i64 k, .int .i64 (t : Int), .string d] w fun e w' =>
      e = .returned (.tuple #[flashV a' b' x y l, .int .i64 0]) ∧ Below w.heap.size w w' := by
  have hk' : (k = 0 ∧ s = a) ∨ (k = 1 ∧ s = b) := by rcases hk with ⟨h1, h2, _⟩ | ⟨h1, h2, _⟩ <;> simp [h1, h2]
  have z1 : (s.extract 0 t).size = t := by rw [ByteArray.size_extract]; omega
  have z2 : (s.extract t (t + d.size)).size = d.size := by rw [ByteArray.size_extract]; omega
  have z3 : (s.extract (t + d.size) s.size).size = s.size - (t + d.size) := by rw [ByteArray.size_extract]; omega
  have z4 := andB_size (s.extract t (t + d.size)) d
  have hcut : ∀ W, Calls Tryz.prog 138 #[flashV a b x y l, .int .i64 k, .int .i64 (t : Int), .int .i64 (d.size : Int)] W fun e w' =>
      e = .returned (.tuple #[.string (s.extract 0 t), .string (s.extract t (t + d.size)), .string (s.extract (t + d.size) s.size)]) ∧ Below W.heap.size W w' := fun W => cut_ok a b x y l t d.size k s hk' h hs W
  unfold progB at hP
  generalize s.extract 0 t = X1 at *
  generalize s.extract t (t + d.size) = X2 at *
  generalize s.extract (t + d.size) s.size = X3 at *
  have hAnd : ∀ W, Calls Tryz.prog 139 #[.string X2, .string d] W fun e w' => e = .returned (.string (andB X2 d)) ∧ Below W.heap.size W w' := fun W => And_any X2 d (by omega) (by unfold maxLen; omega) W
  generalize andB X2 d = X4 at *
  have q1 : X1.size ≤ 1000 := by omega
  have q3 : X3.size ≤ 1000 := by omega
  have q4 : X4.size ≤ 1000 := by omega
  have q5 : (X1 ++ X4).size ≤ 2000 := by rw [ByteArray.size_append]; omega
  have HP := Lib.hid hP
  clear z1 z2 z3 z4 hP hk'
  rcases hk with ⟨rfl, rfl, rfl, rfl⟩ | ⟨rfl, rfl, rfl, rfl⟩
  case inl =>
    have k0 := (Blk.new (w.alloc (.cells (flashC a b x y l) 30)) 30 (flashC a b x y l)).alloc (.cells #[.int .i64 0] 40)
    have k1 := Blk.new ((w.alloc (.cells (flashC a b x y l) 30)).alloc (.cells (flashC a b x y l) 30)) 40 #[.int .i64 0]
    have B1 : Below w.heap.size w (((w.alloc (.cells (flashC a b x y l) 30)).alloc (.cells (flashC a b x y l) 30)).alloc (.cells #[.int .i64 0] 40)) := (((Below.refl _ w).alloc (Nat.le_refl _) _).alloc (by simp) _).alloc (by simp; omega) _
    simp only [World.size_alloc] at k0 k1
    go_enter_defers Tryz.func117, Tryz.ntmps117
    go_wp2_with (with_reducible refine (hcut _).mono ?_)
    rintro e w1 ⟨rfl, b1⟩
    have c0 := k0.below b1 k0.lt
    have c1 := k1.below b1 k1.lt
    have B2 := bthen B1 b1
    clear k0 k1 B1 b1
    go_wp2_with (with_reducible refine (hAnd _).mono ?_)
    rintro e w2 ⟨rfl, b2⟩
    have d0 := c0.below b2 c0.lt
    have d1 := c1.below b2 c1.lt
    have B3 := bthen B2 b2
    clear c0 c1 B2 b2
    have r0 := d0.cell 0
    have r1 := d0.cell 1
    have f0 := d0.frozen 0
    have f1 := d0.frozen 1
    go_wp2
    have e0 := d0.set 0 (.string (X1 ++ X4 ++ X3))
    have e1 := d1.other ⟨w.heap.size + 1, 0, none⟩ (by simp) (.string (X1 ++ X4 ++ X3))
    have B4 := B3.setCell (p := ⟨w.heap.size + 1, 0, none⟩) (by simp) (.string (X1 ++ X4 ++ X3))
    generalize X1 ++ X4 ++ X3 = Y at *
    generalize w2.setCell { block := w.heap.size + 1, off := 0 } (Value.string Y) = W3 at *
    simp [flashC] at e0
    clear r0 r1 f0 f1 d0 d1 B3
    have r0 := e0.cell 0
    have r1 := e0.cell 1
    have r2 := e0.cell 2
    have r3 := e0.cell 3
    have r4 := e0.cell 4
    have f0 := e0.frozen 0
    have f1 := e0.frozen 1
    have f2 := e0.frozen 2
    have f3 := e0.frozen 3
    have f4 := e0.frozen 4
    have r5 := e1.cell 0
    have f5 := e1.frozen 0
    simp at r0 r1 r2 r3 r4 r5
    go_region
    all_goals
      obtain ⟨g0, g1, B5⟩ := self_stores e0 e1 (by omega) B4 (by omega) (by omega)
      clear r0 r1 r2 r3 r4 f0 f1 f2 f3 f4 r5 f5 e0 e1
      go_wp2
      generalize World.setCell (World.setCell (World.setCell (World.setCell (World.setCell (World.setCell W3 _ _) _ _) _ _) _ _) _ _) _ _ = W6 at *
      have r0 := g0.cell 0
      have r1 := g0.cell 1
      have r2 := g0.cell 2
      have r3 := g0.cell 3
      have r4 := g0.cell 4
      have r5 := g1.cell 0
      simp at r0 r1 r2 r3 r4 r5
      refine leaves_cons (f := 137) (args := #[.pointer (some ⟨w.heap.size + 1 + 1, 0, none⟩)]) (by simp) (by simp [go_sem]) ?_
      refine (caught_idle ⟨w.heap.size + 1 + 1, 0, none⟩ _).mono ?_
      rintro e u' w5 ⟨rfl, rfl, rfl⟩
      simp [Leaves, settle, results, Tryz.results117, go_sem, r0, r1, r2, r3, r4, r5]
      exact ⟨HP.out.symm, B5.drew⟩
  case inr =>
    have k0 := (Blk.new (w.alloc (.cells (flashC a b x y l) 30)) 30 (flashC a b x y l)).alloc (.cells #[.int .i64 0] 40)
    have k1 := Blk.new ((w.alloc (.cells (flashC a b x y l) 30)).alloc (.cells (flashC a b x y l) 30)) 40 #[.int .i64 0]
    have B1 : Below w.heap.size w (((w.alloc (.cells (flashC a b x y l) 30)).alloc (.cells (flashC a b x y l) 30)).alloc (.cells #[.int .i64 0] 40)) := (((Below.refl _ w).alloc (Nat.le_refl _) _).alloc (by simp) _).alloc (by simp; omega) _
    simp only [World.size_alloc] at k0 k1
    go_enter_defers Tryz.func117, Tryz.ntmps117
    go_wp2_with (with_reducible refine (hcut _).mono ?_)
    rintro e w1 ⟨rfl, b1⟩
    have c0 := k0.below b1 k0.lt
    have c1 := k1.below b1 k1.lt
    have B2 := bthen B1 b1
    clear k0 k1 B1 b1
    go_wp2_with (with_reducible refine (hAnd _).mono ?_)
    rintro e w2 ⟨rfl, b2⟩
    have d0 := c0.below b2 c0.lt
    have d1 := c1.below b2 c1.lt
    have B3 := bthen B2 b2
    clear c0 c1 B2 b2
    have r0 := d0.cell 0
    have r1 := d0.cell 1
    have f0 := d0.frozen 0
    have f1 := d0.frozen 1
    go_wp2
    have e0 := d0.set 1 (.string (X1 ++ X4 ++ X3))
    have e1 := d1.other ⟨w.heap.size + 1, 1, none⟩ (by simp) (.string (X1 ++ X4 ++ X3))
    have B4 := B3.setCell (p := ⟨w.heap.size + 1, 1, none⟩) (by simp) (.string (X1 ++ X4 ++ X3))
    generalize X1 ++ X4 ++ X3 = Y at *
    generalize w2.setCell { block := w.heap.size + 1, off := 1 } (Value.string Y) = W3 at *
    simp [flashC] at e0
    clear r0 r1 f0 f1 d0 d1 B3
    have r0 := e0.cell 0
    have r1 := e0.cell 1
    have r2 := e0.cell 2
    have r3 := e0.cell 3
    have r4 := e0.cell 4
    have f0 := e0.frozen 0
    have f1 := e0.frozen 1
    have f2 := e0.frozen 2
    have f3 := e0.frozen 3
    have f4 := e0.frozen 4
    have r5 := e1.cell 0
    have f5 := e1.frozen 0
    simp at r0 r1 r2 r3 r4 r5
    go_region
    all_goals
      obtain ⟨g0, g1, B5⟩ := self_stores e0 e1 (by omega) B4 (by omega) (by omega)
      clear r0 r1 r2 r3 r4 f0 f1 f2 f3 f4 r5 f5 e0 e1
      go_wp2
      generalize World.setCell (World.setCell (World.setCell (World.setCell (World.setCell (World.setCell W3 _ _) _ _) _ _) _ _) _ _) _ _ = W6 at *
      have r0 := g0.cell 0
      have r1 := g0.cell 1
      have r2 := g0.cell 2
      have r3 := g0.cell 3
      have r4 := g0.cell 4
      have r5 := g1.cell 0
      simp at r0 r1 r2 r3 r4 r5
      refine leaves_cons (f := 137) (args := #[.pointer (some ⟨w.heap.size + 1 + 1, 0, none⟩)]) (by simp) (by simp [go_sem]) ?_
      refine (caught_idle ⟨w.heap.size + 1 + 1, 0, none⟩ _).mono ?_
      rintro e u' w5 ⟨rfl, rfl, rfl⟩
      simp [Leaves, settle, results, Tryz.results117, go_sem, r0, r1, r2, r3, r4, r5]
      exact ⟨HP.out.symm, B5.drew⟩

theorem repeat_full (n : Nat) : Lib.repeatL [255] n = List.replicate n 255 := by
  induction n with
  | zero => rfl
  | succ n ih => rw [Lib.repeatL, ih, List.replicate_succ]; rfl
theorem Repeat_any (n : Nat) (hn : n ≤ 1000) (w : World) : Calls Tryz.prog 33 #[.string ⟨#[255]⟩, .int .i64 (n : Int)] w fun e w' => e = .returned (.string (fullB n)) ∧ Below w.heap.size w w' := by
  have h := Tryz.strings_Repeat ⟨#[255]⟩ n w (by omega) (by show 1 * n ≤ _; omega)
  have e : (⟨#[255]⟩ : ByteArray).data.toList = [255] := rfl
  rw [e, repeat_full] at h
  exact h

theorem Erase_arg (a b : ByteArray) (x y l k : Int) (hk : (Lit.int .i64 k).wf = true) (h0 : k ≠ 0) (h1 : k ≠ 1) (w : World) :
    Calls Tryz.prog 118 #[flashV a b x y l, .int .i64 k] w fun e w' =>
      e = .returned (.tuple #[flashV a b x y l, .int .i64 1]) ∧ Below w.heap.size w w' := by
  go_enter_defers Tryz.func118, Tryz.ntmps118
  go_wp2_with (with_reducible refine (cut_arg a b x y l k 0 0 hk h0 h1 _).mono ?_)
  rintro e w1 ⟨rfl, b1⟩
  have k0 := (Blk.new (w.alloc (.cells (flashC a b x y l) 30)) 30 (flashC a b x y l)).alloc (.cells #[.int .i64 0] 40)
  have k1 := Blk.new ((w.alloc (.cells (flashC a b x y l) 30)).alloc (.cells (flashC a b x y l) 30)) 40 #[.int .i64 0]
  have kf := ((Blk.new w 30 (flashC a b x y l)).alloc (.cells (flashC a b x y l) 30)).alloc (.cells #[.int .i64 0] 40)
  have B1 : Below w.heap.size w (((w.alloc (.cells (flashC a b x y l) 30)).alloc (.cells (flashC a b x y l) 30)).alloc (.cells #[.int .i64 0] 40)) := (((Below.refl _ w).alloc (Nat.le_refl _) _).alloc (by simp) _).alloc (by simp; omega) _
  simp only [World.size_alloc] at k0 k1
  have c0 := k0.below b1 k0.lt
  have c1 := k1.below b1 k1.lt
  have cf := kf.below b1 kf.lt
  have B2 := bthen B1 b1
  clear k0 k1 kf B1 b1
  go_wp2
  refine leaves_cons (f := 137) (args := #[.pointer (some ⟨w.heap.size + 1 + 1, 0, none⟩)]) (by simp) (by simp [go_sem]) ?_
  refine (caught_panicking ⟨w.heap.size + 1 + 1, 0, none⟩ 0 1 [] _ (c1.cell 0) (c1.frozen 0)).mono ?_
  rintro e u' w2 ⟨rfl, rfl, rfl⟩
  have k3 := (c1.set 0 (.int .i64 1)).cell 0
  have k4 := c0.other ⟨w.heap.size + 1 + 1, 0, none⟩ (by simp) (.int .i64 1)
  have B3 := B2.setCell (p := ⟨w.heap.size + 1 + 1, 0, none⟩) (by simp; omega) (.int .i64 1)
  generalize World.setCell _ ⟨w.heap.size + 1 + 1, 0, none⟩ (.int .i64 1) = w3 at *
  have r0 := k4.cell 0
  have r1 := k4.cell 1
  have r2 := k4.cell 2
  have r3 := k4.cell 3
  have r4 := k4.cell 4
  simp at k3 r0 r1 r2 r3 r4
  simp [Leaves, settle, results, Tryz.results118, go_sem, k3, r0, r1, r2, r3, r4]
  exact B3

theorem Erase_worn (a b : ByteArray) (x y l k : Int) (s : ByteArray) (hk : (k = 0 ∧ s = a ∧ l ≤ x) ∨ (k = 1 ∧ s = b ∧ l ≤ y)) (hs : s.size ≤ 1000) (w : World) :
    Calls Tryz.prog 118 #[flashV a b x y l, .int .i64 k] w fun e w' =>
      e = .returned (.tuple #[flashV a b x y l, .int .i64 4]) ∧ Below w.heap.size w w' := by
  have hk' : (k = 0 ∧ s = a) ∨ (k = 1 ∧ s = b) := by rcases hk with ⟨h1, h2, _⟩ | ⟨h1, h2, _⟩ <;> simp [h1, h2]
  have hcut : ∀ W, Calls Tryz.prog 138 #[flashV a b x y l, .int .i64 k, .int .i64 0, .int .i64 0] W fun e w' =>
      e = .returned (.tuple #[.string (s.extract 0 0), .string (s.extract 0 (0 + 0)), .string (s.extract (0 + 0) s.size)]) ∧ Below W.heap.size W w' := fun W => cut_ok a b x y l 0 0 k s hk' (by omega) hs W
  generalize s.extract 0 0 = X1 at *
  generalize s.extract (0 + 0) s.size = X3 at *
  rcases hk with ⟨rfl, h2, h3⟩ | ⟨rfl, h2, h3⟩
  all_goals
    clear h2 hk'
    go_enter_defers Tryz.func118, Tryz.ntmps118
    go_wp2_with (with_reducible refine (hcut _).mono ?_)
    rintro e w1 ⟨rfl, b1⟩
    have k0 := (Blk.new (w.alloc (.cells (flashC a b x y l) 30)) 30 (flashC a b x y l)).alloc (.cells #[.int .i64 0] 40)
    have k1 := Blk.new ((w.alloc (.cells (flashC a b x y l) 30)).alloc (.cells (flashC a b x y l) 30)) 40 #[.int .i64 0]
    have kf := ((Blk.new w 30 (flashC a b x y l)).alloc (.cells (flashC a b x y l) 30)).alloc (.cells #[.int .i64 0] 40)
    have B1 : Below w.heap.size w (((w.alloc (.cells (flashC a b x y l) 30)).alloc (.cells (flashC a b x y l) 30)).alloc (.cells #[.int .i64 0] 40)) := (((Below.refl _ w).alloc (Nat.le_refl _) _).alloc (by simp) _).alloc (by simp; omega) _
    simp only [World.size_alloc] at k0 k1
    have c0 := k0.below b1 k0.lt
    have c1 := k1.below b1 k1.lt
    have cf := kf.below b1 kf.lt
    have B2 := bthen B1 b1
    clear k0 k1 kf B1 b1
    have q0 := cf.cell 0
    have q1 := cf.cell 1
    have q2 := cf.cell 2
    have q3 := cf.cell 3
    have q4 := cf.cell 4
    simp [flashC] at q0 q1 q2 q3 q4
    go_wp2
    go_quiet (fail)
    replace c0 : Blk (w1.drewN nq) (w.heap.size + 1) 30 (flashC a b x y l) := c0
    replace c1 : Blk (w1.drewN nq) (w.heap.size + 1 + 1) 40 #[.int .i64 0] := c1
    replace cf : Blk (w1.drewN nq) w.heap.size 30 (flashC a b x y l) := cf
    replace B2 : Below w.heap.size w (w1.drewN nq) := bdrew B2 nq
    clear q0 q1 q2 q3 q4
    generalize w1.drewN nq = w3 at *
    have q0 := cf.cell 0
    have q1 := cf.cell 1
    have q2 := cf.cell 2
    have q3 := cf.cell 3
    have q4 := cf.cell 4
    simp [flashC] at q0 q1 q2 q3 q4
    go_wp2
    refine leaves_cons (f := 137) (args := #[.pointer (some ⟨w.heap.size + 1 + 1, 0, none⟩)]) (by simp) (by simp [go_sem]) ?_
    refine (caught_panicking ⟨w.heap.size + 1 + 1, 0, none⟩ 0 4 [] _ (c1.cell 0) (c1.frozen 0)).mono ?_
    rintro e u' w2 ⟨rfl, rfl, rfl⟩
    have k3 := (c1.set 0 (.int .i64 4)).cell 0
    have k4 := c0.other ⟨w.heap.size + 1 + 1, 0, none⟩ (by simp) (.int .i64 4)
    have B3 := B2.setCell (p := ⟨w.heap.size + 1 + 1, 0, none⟩) (by simp; omega) (.int .i64 4)
    generalize World.setCell _ ⟨w.heap.size + 1 + 1, 0, none⟩ (.int .i64 4) = w3 at *
    have r0 := k4.cell 0
    have r1 := k4.cell 1
    have r2 := k4.cell 2
    have r3 := k4.cell 3
    have r4 := k4.cell 4
    simp at k3 r0 r1 r2 r3 r4
    simp [Leaves, settle, results, Tryz.results118, go_sem, k3, r0, r1, r2, r3, r4]
    exact B3

theorem Erase_ok (a b : ByteArray) (x y l k : Int) (s a' b' : ByteArray) (x' y' : Int) (hk : (k = 0 ∧ a = s ∧ fullB s.size = a' ∧ b = b' ∧ x + 1 = x' ∧ y = y' ∧ x < l) ∨ (k = 1 ∧ b = s ∧ a = a' ∧ fullB s.size = b' ∧ x = x' ∧ y + 1 = y' ∧ y < l))
    (hx : (Lit.int .i64 x).wf = true) (hy : (Lit.int .i64 y).wf = true) (hl : (Lit.int .i64 l).wf = true) (hs : s.size ≤ 1000) (w : World) :
    Calls Tryz.prog 118 #[flashV a b x y l, .int .i64 k] w fun e w' =>
      e = .returned (.tuple #[flashV a' b' x' y' l, .int .i64 0]) ∧ Below w.heap.size w w' := by
  have hk' : (k = 0 ∧ s = a) ∨ (k = 1 ∧ s = b) := by rcases hk with ⟨h1, h2, _⟩ | ⟨h1, h2, _⟩ <;> simp [h1, h2]
  simp [Lit.wf, IntKind.min, IntKind.max, IntKind.signed, IntKind.bits] at hx hy hl
  have hcut : ∀ W, Calls Tryz.prog 138 #[flashV a b x y l, .int .i64 k, .int .i64 0, .int .i64 0] W fun e w' =>
      e = .returned (.tuple #[.string (s.extract 0 0), .string (s.extract 0 (0 + 0)), .string (s.extract (0 + 0) s.size)]) ∧ Below W.heap.size W w' := fun W => cut_ok a b x y l 0 0 k s hk' (by omega) hs W
  generalize s.extract 0 0 = X1 at *
  generalize s.extract (0 + 0) s.size = X3 at *
  have hrep : ∀ W, Calls Tryz.prog 33 #[.string ⟨#[255]⟩, .int .i64 (s.size : Int)] W fun e w' => e = .returned (.string (fullB s.size)) ∧ Below W.heap.size W w' := fun W => Repeat_any s.size hs W
  generalize hF : fullB s.size = F at *
  clear hF hk'
  rcases hk with ⟨rfl, rfl, rfl, rfl, rfl, rfl, h3⟩ | ⟨rfl, rfl, rfl, rfl, rfl, rfl, h3⟩
  · go_enter_defers Tryz.func118, Tryz.ntmps118
    go_wp2_with (with_reducible refine (hcut _).mono ?_)
    rintro e w1 ⟨rfl, b1⟩
    have k0 := (Blk.new (w.alloc (.cells (flashC a b x y l) 30)) 30 (flashC a b x y l)).alloc (.cells #[.int .i64 0] 40)
    have k1 := Blk.new ((w.alloc (.cells (flashC a b x y l) 30)).alloc (.cells (flashC a b x y l) 30)) 40 #[.int .i64 0]
    have kf := ((Blk.new w 30 (flashC a b x y l)).alloc (.cells (flashC a b x y l) 30)).alloc (.cells #[.int .i64 0] 40)
    have B1 : Below w.heap.size w (((w.alloc (.cells (flashC a b x y l) 30)).alloc (.cells (flashC a b x y l) 30)).alloc (.cells #[.int .i64 0] 40)) := (((Below.refl _ w).alloc (Nat.le_refl _) _).alloc (by simp) _).alloc (by simp; omega) _
    simp only [World.size_alloc] at k0 k1
    have c0 := k0.below b1 k0.lt
    have c1 := k1.below b1 k1.lt
    have cf := kf.below b1 kf.lt
    have B2 := bthen B1 b1
    clear k0 k1 kf B1 b1
    have q0 := cf.cell 0
    have q1 := cf.cell 1
    have q2 := cf.cell 2
    have q3 := cf.cell 3
    have q4 := cf.cell 4
    simp [flashC] at q0 q1 q2 q3 q4
    go_wp2
    go_quiet (fail)
    replace c0 : Blk (w1.drewN nq) (w.heap.size + 1) 30 (flashC a b x y l) := c0
    replace c1 : Blk (w1.drewN nq) (w.heap.size + 1 + 1) 40 #[.int .i64 0] := c1
    replace cf : Blk (w1.drewN nq) w.heap.size 30 (flashC a b x y l) := cf
    replace B2 : Below w.heap.size w (w1.drewN nq) := bdrew B2 nq
    clear q0 q1 q2 q3 q4
    generalize w1.drewN nq = w3 at *
    have q0 := cf.cell 0
    have q1 := cf.cell 1
    have q2 := cf.cell 2
    have q3 := cf.cell 3
    have q4 := cf.cell 4
    simp [flashC] at q0 q1 q2 q3 q4
    go_wp2_with (with_reducible refine (hrep _).mono ?_)
    rintro e w4 ⟨rfl, b4⟩
    have d0 := c0.below b4 c0.lt
    have d1 := c1.below b4 c1.lt
    have B3 := bthen B2 b4
    clear c0 c1 cf q0 q1 q2 q3 q4 B2 b4
    have r0 := d0.cell 0
    have r1 := d0.cell 1
    have r2 := d0.cell 2
    have r3 := d0.cell 3
    have f0 := d0.frozen 0
    have f1 := d0.frozen 1
    have f2 := d0.frozen 2
    have f3 := d0.frozen 3
    simp [flashC] at r0 r1 r2 r3
    go_wp2
    have e0 := (d0.set 0 (.string F)).set 2 (.int .i64 (x + 1))
    have e1 := (d1.other ⟨w.heap.size + 1, 0, none⟩ (by simp) (.string F)).other ⟨w.heap.size + 1, 2, none⟩ (by simp) (.int .i64 (x + 1))
    have B4 := (B3.setCell (p := ⟨w.heap.size + 1, 0, none⟩) (by simp) (.string F)).setCell (p := ⟨w.heap.size + 1, 2, none⟩) (by simp) (.int .i64 (x + 1))
    generalize (w4.setCell { block := w.heap.size + 1, off := 0 } (Value.string F)).setCell { block := w.heap.size + 1, off := 2 } (.int .i64 (x + 1)) = W3 at *
    simp [flashC] at e0
    clear r0 r1 r2 r3 f0 f1 f2 f3 d0 d1 B3
    have r0 := e0.cell 0
    have r1 := e0.cell 1
    have r2 := e0.cell 2
    have r3 := e0.cell 3
    have r4 := e0.cell 4
    have f0 := e0.frozen 0
    have f1 := e0.frozen 1
    have f2 := e0.frozen 2
    have f3 := e0.frozen 3
    have f4 := e0.frozen 4
    have r5 := e1.cell 0
    have f5 := e1.frozen 0
    simp at r0 r1 r2 r3 r4 r5
    go_region
    all_goals
      obtain ⟨g0, g1, B5⟩ := self_stores e0 e1 (by omega) B4 (by omega) (by omega)
      clear r0 r1 r2 r3 r4 f0 f1 f2 f3 f4 r5 f5 e0 e1
      go_wp2
      generalize World.setCell (World.setCell (World.setCell (World.setCell (World.setCell (World.setCell W3 _ _) _ _) _ _) _ _) _ _) _ _ = W6 at *
      have r0 := g0.cell 0
      have r1 := g0.cell 1
      have r2 := g0.cell 2
      have r3 := g0.cell 3
      have r4 := g0.cell 4
      have r5 := g1.cell 0
      simp at r0 r1 r2 r3 r4 r5
      refine leaves_cons (f := 137) (args := #[.pointer (some ⟨w.heap.size + 1 + 1, 0, none⟩)]) (by simp) (by simp [go_sem]) ?_
      refine (caught_idle ⟨w.heap.size + 1 + 1, 0, none⟩ _).mono ?_
      rintro e u' w5 ⟨rfl, rfl, rfl⟩
      simp [Leaves, settle, results, Tryz.results118, go_sem, r0, r1, r2, r3, r4, r5]
      exact B5.drew
  · go_enter_defers Tryz.func118, Tryz.ntmps118
    go_wp2_with (with_reducible refine (hcut _).mono ?_)
    rintro e w1 ⟨rfl, b1⟩
    have k0 := (Blk.new (w.alloc (.cells (flashC a b x y l) 30)) 30 (flashC a b x y l)).alloc (.cells #[.int .i64 0] 40)
    have k1 := Blk.new ((w.alloc (.cells (flashC a b x y l) 30)).alloc (.cells (flashC a b x y l) 30)) 40 #[.int .i64 0]
    have kf := ((Blk.new w 30 (flashC a b x y l)).alloc (.cells (flashC a b x y l) 30)).alloc (.cells #[.int .i64 0] 40)
    have B1 : Below w.heap.size w (((w.alloc (.cells (flashC a b x y l) 30)).alloc (.cells (flashC a b x y l) 30)).alloc (.cells #[.int .i64 0] 40)) := (((Below.refl _ w).alloc (Nat.le_refl _) _).alloc (by simp) _).alloc (by simp; omega) _
    simp only [World.size_alloc] at k0 k1
    have c0 := k0.below b1 k0.lt
    have c1 := k1.below b1 k1.lt
    have cf := kf.below b1 kf.lt
    have B2 := bthen B1 b1
    clear k0 k1 kf B1 b1
    have q0 := cf.cell 0
    have q1 := cf.cell 1
    have q2 := cf.cell 2
    have q3 := cf.cell 3
    have q4 := cf.cell 4
    simp [flashC] at q0 q1 q2 q3 q4
    go_wp2
    go_quiet (fail)
    replace c0 : Blk (w1.drewN nq) (w.heap.size + 1) 30 (flashC a b x y l) := c0
    replace c1 : Blk (w1.drewN nq) (w.heap.size + 1 + 1) 40 #[.int .i64 0] := c1
    replace cf : Blk (w1.drewN nq) w.heap.size 30 (flashC a b x y l) := cf
    replace B2 : Below w.heap.size w (w1.drewN nq) := bdrew B2 nq
    clear q0 q1 q2 q3 q4
    generalize w1.drewN nq = w3 at *
    have q0 := cf.cell 0
    have q1 := cf.cell 1
    have q2 := cf.cell 2
    have q3 := cf.cell 3
    have q4 := cf.cell 4
    simp [flashC] at q0 q1 q2 q3 q4
    go_wp2_with (with_reducible refine (hrep _).mono ?_)
    rintro e w4 ⟨rfl, b4⟩
    have d0 := c0.below b4 c0.lt
    have d1 := c1.below b4 c1.lt
    have B3 := bthen B2 b4
    clear c0 c1 cf q0 q1 q2 q3 q4 B2 b4
    have r0 := d0.cell 0
    have r1 := d0.cell 1
    have r2 := d0.cell 2
    have r3 := d0.cell 3
    have f0 := d0.frozen 0
    have f1 := d0.frozen 1
    have f2 := d0.frozen 2
    have f3 := d0.frozen 3
    simp [flashC] at r0 r1 r2 r3
    go_wp2
    have e0 := (d0.set 1 (.string F)).set 3 (.int .i64 (y + 1))
    have e1 := (d1.other ⟨w.heap.size + 1, 1, none⟩ (by simp) (.string F)).other ⟨w.heap.size + 1, 3, none⟩ (by simp) (.int .i64 (y + 1))
    have B4 := (B3.setCell (p := ⟨w.heap.size + 1, 1, none⟩) (by simp) (.string F)).setCell (p := ⟨w.heap.size + 1, 3, none⟩) (by simp) (.int .i64 (y + 1))
    generalize (w4.setCell { block := w.heap.size + 1, off := 1 } (Value.string F)).setCell { block := w.heap.size + 1, off := 3 } (.int .i64 (y + 1)) = W3 at *
    simp [flashC] at e0
    clear r0 r1 r2 r3 f0 f1 f2 f3 d0 d1 B3
    have r0 := e0.cell 0
    have r1 := e0.cell 1
    have r2 := e0.cell 2
    have r3 := e0.cell 3
    have r4 := e0.cell 4
    have f0 := e0.frozen 0
    have f1 := e0.frozen 1
    have f2 := e0.frozen 2
    have f3 := e0.frozen 3
    have f4 := e0.frozen 4
    have r5 := e1.cell 0
    have f5 := e1.frozen 0
    simp at r0 r1 r2 r3 r4 r5
    go_region
    all_goals
      obtain ⟨g0, g1, B5⟩ := self_stores e0 e1 (by omega) B4 (by omega) (by omega)
      clear r0 r1 r2 r3 r4 f0 f1 f2 f3 f4 r5 f5 e0 e1
      go_wp2
      generalize World.setCell (World.setCell (World.setCell (World.setCell (World.setCell (World.setCell W3 _ _) _ _) _ _) _ _) _ _) _ _ = W6 at *
      have r0 := g0.cell 0
      have r1 := g0.cell 1
      have r2 := g0.cell 2
      have r3 := g0.cell 3
      have r4 := g0.cell 4
      have r5 := g1.cell 0
      simp at r0 r1 r2 r3 r4 r5
      refine leaves_cons (f := 137) (args := #[.pointer (some ⟨w.heap.size + 1 + 1, 0, none⟩)]) (by simp) (by simp [go_sem]) ?_
      refine (caught_idle ⟨w.heap.size + 1 + 1, 0, none⟩ _).mono ?_
      rintro e u' w5 ⟨rfl, rfl, rfl⟩
      simp [Leaves, settle, results, Tryz.results118, go_sem, r0, r1, r2, r3, r4, r5]
      exact B5.drew
end Go.Proofs.YtebkeocpojlepaaGreatDoor

/- flash.Read, Program, Erase, New over opaque functions of flashes. -/
namespace Go.Proofs.YtebkeocpojlepaaGreatDoor
open Go.RowKit
set_option linter.unusedVariables false
set_option linter.unusedSimpArgs false

/-- a flash -/
structure Fl where
  a : ByteArray
  b : ByteArray
  x : Int
  y : Int
  l : Int
abbrev flV (f : Fl) : Value := .agg #[.string f.a, .string f.b, .int .i64 f.x, .int .i64 f.y, .int .i64 f.l]
/-- its numbers are integers, its banks are short -/
structure Fl.ok (f : Fl) : Prop where
  hx : (Lit.int .i64 f.x).wf = true
  hy : (Lit.int .i64 f.y).wf = true
  hl : (Lit.int .i64 f.l).wf = true
  ha : f.a.size ≤ 500
  hb : f.b.size ≤ 500

def Fl.bank (f : Fl) (k : Int) : ByteArray := if k = 0 then f.a else f.b
def Fl.worn (f : Fl) (k : Int) : Int := if k = 0 then f.x else f.y
def Fl.put (f : Fl) (k : Int) (s : ByteArray) : Fl := if k = 0 then { f with a := s } else { f with b := s }
def Fl.wear (f : Fl) (k : Int) (n : Int) : Fl := if k = 0 then { f with x := n } else { f with y := n }
def badAt (s : ByteArray) (t n : Int) : Prop := t < 0 ∨ n < 0 ∨ (s.size : Int) < t ∨ (s.size : Int) - t < n
instance (s : ByteArray) (t n : Int) : Decidable (badAt s t n) := by unfold badAt; infer_instance

/-- what is wrong about a place of a bank -/
def cutE (f : Fl) (k t n : Int) : Int := if k ≠ 0 ∧ k ≠ 1 then 1 else if badAt (f.bank k) t n then 2 else 0
def rdE (f : Fl) (k t n : Int) : Int := cutE f k t n
def rdS (f : Fl) (k t n : Int) : ByteArray := if cutE f k t n = 0 then (f.bank k).extract t.toNat (t.toNat + n.toNat) else ⟨#[]⟩
def pgE (f : Fl) (k t : Int) (d : ByteArray) : Int := if cutE f k t (d.size : Int) ≠ 0 then cutE f k t (d.size : Int) else if t % 2 ≠ 0 ∨ d.size % 2 ≠ 0 then 3 else 0
def pgF (f : Fl) (k t : Int) (d : ByteArray) : Fl := if pgE f k t d = 0 then f.put k (progB (f.bank k) t.toNat d) else f
def erE (f : Fl) (k : Int) : Int := if k ≠ 0 ∧ k ≠ 1 then 1 else if f.l ≤ f.worn k then 4 else 0
def erF (f : Fl) (k : Int) : Fl := if erE f k = 0 then (f.put k (fullB (f.bank k).size)).wear k (f.worn k + 1) else f
def newF (n l : Int) : Fl := if n < 0 ∨ 400 < n ∨ l < 0 ∨ 1000 < l then ⟨⟨#[]⟩, ⟨#[]⟩, 0, 0, 0⟩ else ⟨fullB n.toNat, fullB n.toNat, 0, 0, l⟩

theorem cutE_1 {f : Fl} {k t n : Int} (h0 : k ≠ 0) (h1 : k ≠ 1) : cutE f k t n = 1 := if_pos ⟨h0, h1⟩
theorem cutE_2 {f : Fl} {k t n : Int} (h : k = 0 ∨ k = 1) (hb : badAt (f.bank k) t n) : cutE f k t n = 2 := by
  unfold cutE; rw [if_neg (by omega), if_pos hb]
theorem cutE_0 {f : Fl} {k t n : Int} (h : k = 0 ∨ k = 1) (hb : ¬ badAt (f.bank k) t n) : cutE f k t n = 0 := by
  unfold cutE; rw [if_neg (by omega), if_neg hb]
theorem cutE_of {f : Fl} {k t n : Int} (h : cutE f k t n = 0) : (k = 0 ∨ k = 1) ∧ 0 ≤ t ∧ 0 ≤ n ∧ t + n ≤ ((f.bank k).size : Int) := by
  unfold cutE at h
  split at h
  · cases h
  · split at h
    · cases h
    · rename_i h1 h2
      unfold badAt at h2
      omega
theorem bank_is (f : Fl) (k : Int) (h : k = 0 ∨ k = 1) : (k = 0 ∧ f.bank k = f.a) ∨ (k = 1 ∧ f.bank k = f.b) := by
  rcases h with rfl | rfl
  · exact .inl ⟨rfl, rfl⟩
  · exact .inr ⟨rfl, rfl⟩
theorem Fl.ok.bank {f : Fl} (h : f.ok) (k : Int) : (f.bank k).size ≤ 500 := by
  unfold Fl.bank; split
  · exact h.ha
  · exact h.hb

theorem or_par (t n : Nat) (ht : t ≤ 1000) (hn : n ≤ 1000) : (bits .and .i64 (bits .or .i64 (t : Int) (n : Int)) 1 != 0) = decide (t % 2 ≠ 0 ∨ n % 2 ≠ 0) := by
  have hw : ∀ m : Nat, m < 1024 → IntKind.i64.wrap (m : Int) = (m : Int) := fun m hm => IntWalk.i64_in _ (by omega)
  have hor : t ||| n < 1024 := Nat.or_lt_two_pow (n := 10) (by omega) (by omega)
  have e1 : bits .or .i64 (t : Int) (n : Int) = ((t ||| n : Nat) : Int) := by
    show IntKind.i64.wrap ((BitVec.ofInt 64 (t : Int) ||| BitVec.ofInt 64 (n : Int)).toNat : Int) = _
    rw [BitVec.toNat_or, BitVec.toNat_ofInt, BitVec.toNat_ofInt]
    rw [show ((t : Int) % ((2 ^ 64 : Nat) : Int)).toNat = t by omega, show ((n : Int) % ((2 ^ 64 : Nat) : Int)).toNat = n by omega]
    exact hw _ hor
  have e2 : bits .and .i64 ((t ||| n : Nat) : Int) 1 = (((t ||| n) % 2 : Nat) : Int) := by
    show IntKind.i64.wrap ((BitVec.ofInt 64 ((t ||| n : Nat) : Int) &&& BitVec.ofInt 64 1).toNat : Int) = _
    rw [BitVec.toNat_and, BitVec.toNat_ofInt]
    rw [show (((t ||| n : Nat) : Int) % ((2 ^ 64 : Nat) : Int)).toNat = t ||| n by omega, show (BitVec.ofInt 64 1).toNat = 1 from rfl, Nat.and_one_is_mod]
    exact hw _ (by omega)
  rw [e1, e2]
  have e3 : (t ||| n) % 2 = t % 2 ||| n % 2 := by have := Nat.or_mod_two_pow (a := t) (b := n) (n := 1); simpa using this
  rw [e3]
  rcases Nat.mod_two_eq_zero_or_one t with h | h <;> rcases Nat.mod_two_eq_zero_or_one n with h2 | h2 <;> rw [h, h2] <;> decide

theorem pgE_cut {f : Fl} {k t : Int} {d : ByteArray} {E : Int} (h : cutE f k t (d.size : Int) = E) (hE : E ≠ 0) : pgE f k t d = E := by
  unfold pgE; rw [h, if_pos hE]
theorem pgF_bad {f : Fl} {k t : Int} {d : ByteArray} (h : pgE f k t d ≠ 0) : pgF f k t d = f := if_neg h
theorem rdS_bad {f : Fl} {k t n : Int} (h : cutE f k t n ≠ 0) : rdS f k t n = ⟨#[]⟩ := if_neg h


theorem Program_any (f : Fl) (hf : f.ok) (k t : Int) (d : ByteArray) (hk : (Lit.int .i64 k).wf = true) (ht : (Lit.int .i64 t).wf = true) (hd : d.size ≤ maxLen) (w : World) :
    Calls Tryz.prog 117 #[flV f, .int .i64 k, .int .i64 t, .string d] w fun e w' =>
      e = .returned (.tuple #[flV (pgF f k t d), .int .i64 (pgE f k t d)]) ∧ Below w.heap.size w w' := by
  have hs := hf.bank k
  have hn : (Lit.int .i64 (d.size : Int)).wf = true := by unfold maxLen at hd; simp [Lit.wf, IntKind.min, IntKind.max, IntKind.signed, IntKind.bits]; omega
  by_cases h : k = 0 ∨ k = 1
  · by_cases hb : badAt (f.bank k) t (d.size : Int)
    · have hE := pgE_cut (cutE_2 h hb) (by omega)
      rw [hE, pgF_bad (by omega)]
      exact Program_bad f.a f.b d f.x f.y f.l k t 2 w fun W => cut_bounds f.a f.b f.x f.y f.l t _ k (f.bank k) (bank_is f k h) hb hn ht (by omega) W
    · have hE := cutE_0 h hb
      obtain ⟨_, h2, h3, h4⟩ := cutE_of hE
      obtain ⟨t, rfl⟩ := Int.eq_ofNat_of_zero_le h2
      have hp := or_par t d.size (by omega) (by omega)
      by_cases hpar : t % 2 ≠ 0 ∨ d.size % 2 ≠ 0
      · rw [decide_eq_true hpar] at hp
        have hE3 : pgE f k t d = 3 := by unfold pgE; rw [if_neg (by omega), if_pos (by omega)]
        rw [hE3, pgF_bad (by omega)]
        exact Program_align f.a f.b d f.x f.y f.l t k (f.bank k) (bank_is f k h) (by omega) (by omega) hp w
      · rw [decide_eq_false hpar] at hp
        have hE0 : pgE f k t d = 0 := by unfold pgE; rw [if_neg (by omega), if_neg (by omega)]
        have hF : pgF f k t d = f.put k (progB (f.bank k) t d) := if_pos hE0
        rw [hE0, hF]
        rcases h with rfl | rfl
        · exact Program_ok f.a f.b d f.x f.y f.l t 0 f.a _ _ _ (.inl ⟨rfl, rfl, rfl, rfl⟩) rfl (by simp [Fl.bank] at h4; omega) (by have := hf.ha; omega) hp w
        · exact Program_ok f.a f.b d f.x f.y f.l t 1 f.b _ _ _ (.inr ⟨rfl, rfl, rfl, rfl⟩) rfl (by simp [Fl.bank] at h4; omega) (by have := hf.hb; omega) hp w
  · have hE := pgE_cut (cutE_1 (f := f) (t := t) (n := (d.size : Int)) (k := k) (by omega) (by omega)) (by omega)
    rw [hE, pgF_bad (by omega)]
    exact Program_bad f.a f.b d f.x f.y f.l k t 1 w fun W => cut_arg f.a f.b f.x f.y f.l k t _ hk (by omega) (by omega) W

theorem Erase_any (f : Fl) (hf : f.ok) (k : Int) (hk : (Lit.int .i64 k).wf = true) (w : World) :
    Calls Tryz.prog 118 #[flV f, .int .i64 k] w fun e w' =>
      e = .returned (.tuple #[flV (erF f k), .int .i64 (erE f k)]) ∧ Below w.heap.size w w' := by
  have ha := hf.ha
  have hb := hf.hb
  by_cases h : k = 0 ∨ k = 1
  · by_cases hw : f.l ≤ f.worn k
    · have hE : erE f k = 4 := by unfold erE; rw [if_neg (by omega), if_pos hw]
      have hF : erF f k = f := if_neg (by omega)
      rw [hE, hF]
      rcases h with rfl | rfl
      · exact Erase_worn f.a f.b f.x f.y f.l 0 f.a (.inl ⟨rfl, rfl, hw⟩) (by omega) w
      · exact Erase_worn f.a f.b f.x f.y f.l 1 f.b (.inr ⟨rfl, rfl, hw⟩) (by omega) w
    · have hE : erE f k = 0 := by unfold erE; rw [if_neg (by omega), if_neg hw]
      have hF : erF f k = (f.put k (fullB (f.bank k).size)).wear k (f.worn k + 1) := if_pos hE
      rw [hE, hF]
      rcases h with rfl | rfl
      · exact Erase_ok f.a f.b f.x f.y f.l 0 f.a _ _ _ _ (.inl ⟨rfl, rfl, rfl, rfl, rfl, rfl, by simpa [Fl.worn] using hw⟩) hf.hx hf.hy hf.hl (by omega) w
      · exact Erase_ok f.a f.b f.x f.y f.l 1 f.b _ _ _ _ (.inr ⟨rfl, rfl, rfl, rfl, rfl, rfl, by simpa [Fl.worn] using hw⟩) hf.hx hf.hy hf.hl (by omega) w
  · have hE : erE f k = 1 := by unfold erE; rw [if_pos (by omega)]
    have hF : erF f k = f := if_neg (by omega)
    rw [hE, hF]
    exact Erase_arg f.a f.b f.x f.y f.l k hk (by omega) (by omega) w
end Go.Proofs.YtebkeocpojlepaaGreatDoor

/- Plain laws of the flash functions. -/
namespace Go.Proofs.YtebkeocpojlepaaGreatDoor
open Go.RowKit
set_option linter.unusedVariables false
set_option linter.unusedSimpArgs false

theorem progB_size (s d : ByteArray) (t : Nat) (h : t + d.size ≤ s.size) : (progB s t d).size = s.size := by
  unfold progB
  rw [ByteArray.size_append, ByteArray.size_append, andB_size, ByteArray.size_extract, ByteArray.size_extract, ByteArray.size_extract]
  omega
theorem Fl.put_bank (f : Fl) (k : Int) (s : ByteArray) : (f.put k s).bank k = s := by
  unfold Fl.put Fl.bank; split <;> rfl
theorem pgE_of {f : Fl} {k t : Int} {d : ByteArray} (h : pgE f k t d = 0) : (k = 0 ∨ k = 1) ∧ 0 ≤ t ∧ t + (d.size : Int) ≤ ((f.bank k).size : Int) ∧ t % 2 = 0 ∧ d.size % 2 = 0 ∧ cutE f k t (d.size : Int) = 0 := by
  unfold pgE at h
  split at h
  · contradiction
  · rename_i h1
    have h1 := Classical.not_not.1 h1
    obtain ⟨a1, a2, a3, a4⟩ := cutE_of h1
    split at h
    · cases h
    · exact ⟨a1, a2, a4, by omega, by omega, h1⟩
theorem put_ok {f : Fl} (hf : f.ok) (k : Int) (s : ByteArray) (h : s.size ≤ 500) : (f.put k s).ok := by
  unfold Fl.put; split
  · exact ⟨hf.hx, hf.hy, hf.hl, h, hf.hb⟩
  · exact ⟨hf.hx, hf.hy, hf.hl, hf.ha, h⟩
theorem pgF_ok {f : Fl} (hf : f.ok) (k t : Int) (d : ByteArray) : (pgF f k t d).ok := by
  unfold pgF; split
  · rename_i h
    obtain ⟨h1, h2, h3, _⟩ := pgE_of h
    have := hf.bank k
    exact put_ok hf k _ (by rw [progB_size _ _ _ (by omega)]; exact this)
  · exact hf
theorem wear_ok {f : Fl} (hf : f.ok) (k n : Int) (h : (Lit.int .i64 n).wf = true) : (f.wear k n).ok := by
  unfold Fl.wear; split
  · exact ⟨h, hf.hy, hf.hl, hf.ha, hf.hb⟩
  · exact ⟨hf.hx, h, hf.hl, hf.ha, hf.hb⟩
theorem worn_wf {f : Fl} (hf : f.ok) (k : Int) : (Lit.int .i64 (f.worn k)).wf = true := by
  unfold Fl.worn; split
  · exact hf.hx
  · exact hf.hy
theorem erF_ok {f : Fl} (hf : f.ok) (k : Int) : (erF f k).ok := by
  unfold erF; split
  · rename_i h
    have hw := worn_wf hf k
    have hl := hf.hl
    have := hf.bank k
    unfold erE at h
    split at h
    · cases h
    · split at h
      · cases h
      · exact wear_ok (put_ok hf k _ (by rw [fullB_size]; exact this)) k _ (by
          simp [Lit.wf, IntKind.min, IntKind.max, IntKind.signed, IntKind.bits] at hw hl ⊢; omega)
  · exact hf

/-- reading what was programmed -/
theorem cutE_size {f g : Fl} {k t n : Int} (h : (f.bank k).size = (g.bank k).size) : cutE f k t n = cutE g k t n := by
  have e : badAt (f.bank k) t n ↔ badAt (g.bank k) t n := by unfold badAt; rw [h]
  unfold cutE; simp only [e]
theorem pgF_size (f : Fl) (k t : Int) (d : ByteArray) : ((pgF f k t d).bank k).size = (f.bank k).size := by
  unfold pgF; split
  · rename_i h
    obtain ⟨h1, h2, h3, _⟩ := pgE_of h
    rw [Fl.put_bank, progB_size _ _ _ (by omega)]
  · rfl
theorem ext_join (s : ByteArray) (a b c : Nat) (h1 : a ≤ b) (h2 : b ≤ c) : s.extract a b ++ s.extract b c = s.extract a c := by
  rw [ByteArray.extract_append_extract, Nat.min_eq_left h1, Nat.max_eq_right h2]

theorem parts_bad {f : Fl} {k : Int} {t n m : Nat} (h : rdE f k t (n + m) ≠ 0) : rdS f k t (n + m) = ⟨#[]⟩ ∧ (rdE f k t n ≠ 0 ∨ rdE f k (t + n) m ≠ 0) := by
  refine ⟨rdS_bad h, ?_⟩
  by_cases h1 : rdE f k t n = 0
  · by_cases h2 : rdE f k (t + n) m = 0
    · exfalso
      obtain ⟨a1, a2, a3, a4⟩ := cutE_of h1
      obtain ⟨b1, b2, b3, b4⟩ := cutE_of h2
      exact h (cutE_0 a1 (by unfold badAt; omega))
    · exact .inr h2
  · exact .inl h1
theorem parts_ok {f : Fl} {k : Int} {t n m : Nat} (h : rdE f k t (n + m) = 0) : rdE f k t n = 0 ∧ rdE f k (t + n) m = 0 ∧ rdS f k t (n + m) = rdS f k t n ++ rdS f k (t + n) m := by
  obtain ⟨a1, a2, a3, a4⟩ := cutE_of h
  have h1 : rdE f k t n = 0 := cutE_0 a1 (by unfold badAt; omega)
  have h2 : rdE f k (t + n) m = 0 := cutE_0 a1 (by unfold badAt; omega)
  refine ⟨h1, h2, ?_⟩
  rw [show rdS f k t (n + m) = _ from if_pos h, show rdS f k t n = _ from if_pos h1, show rdS f k (t + n) m = _ from if_pos h2]
  rw [show (t : Int).toNat = t by omega, show ((n : Int) + (m : Int)).toNat = n + m by omega, show ((t : Int) + (n : Int)).toNat = t + n by omega, show (n : Int).toNat = n by omega, show (m : Int).toNat = m by omega]
  rw [ext_join _ _ _ _ (by omega) (by omega), Nat.add_assoc]

theorem mid_ext (X Y Z : ByteArray) (t n : Nat) (h1 : X.size = t) (h2 : Y.size = n) : (X ++ Y ++ Z).extract t (t + n) = Y := by
  have e1 : X.data.toList.length = t := by simpa using h1
  have e2 : Y.data.toList.length = n := by simpa using h2
  apply ByteArray.ext
  apply Array.ext'
  rw [ByteArray.data_extract, ByteArray.data_append, ByteArray.data_append, Array.toList_extract, Array.toList_append, Array.toList_append, List.extract_eq_take_drop, List.append_assoc, List.drop_left' e1, Nat.add_sub_cancel_left, List.take_left' e2]
theorem progB_mid (s d : ByteArray) (t : Nat) (h : t + d.size ≤ s.size) : (progB s t d).extract t (t + d.size) = andB (s.extract t (t + d.size)) d :=
  mid_ext _ _ _ _ _ (by rw [ByteArray.size_extract]; omega) (by rw [andB_size, ByteArray.size_extract]; omega)

theorem byteOr_app (X Y : ByteArray) (j : Nat) : byteOr (X ++ Y) 0 j = if j < X.size then byteOr X 0 j else byteOr Y 0 (j - X.size) := by
  unfold byteOr
  rw [ByteArray.data_append, Array.toList_append]
  have e1 : X.data.toList.length = X.size := by simp
  split
  · rename_i h; rw [List.getD_eq_getElem?_getD, List.getElem?_append_left (by omega), ← List.getD_eq_getElem?_getD]
  · rename_i h; rw [List.getD_eq_getElem?_getD, List.getElem?_append_right (by omega), ← List.getD_eq_getElem?_getD, e1]
theorem byteOr_ext (s : ByteArray) (d : UInt8) (a b j : Nat) (hb : b ≤ s.size) (h : a + j < b) : byteOr (s.extract a b) d j = byteOr s 0 (a + j) := by
  have hz : (s.extract a b).size = b - a := by rw [ByteArray.size_extract]; omega
  rw [byteOr_lt _ _ _ (by omega), byteOr_lt _ _ _ (by omega), ByteArray.getElem_extract]

theorem progB_byte (s d : ByteArray) (t : Nat) (h : t + d.size ≤ s.size) (j : Nat) (hj : j < s.size) :
    byteOr (progB s t d) 0 j = if t ≤ j ∧ j < t + d.size then byteOr s 0 j &&& byteOr d 255 (j - t) else byteOr s 0 j := by
  have z1 : (s.extract 0 t).size = t := by rw [ByteArray.size_extract]; omega
  have z2 : (s.extract t (t + d.size)).size = d.size := by rw [ByteArray.size_extract]; omega
  have z3 : (andB (s.extract t (t + d.size)) d).size = d.size := by rw [andB_size, z2]
  unfold progB
  rw [byteOr_app, byteOr_app, ByteArray.size_append, z1, z3]
  by_cases h1 : j < t
  · rw [if_pos (by omega), if_pos h1, if_neg (by omega), byteOr_ext _ _ _ _ _ (by omega) (by omega), Nat.zero_add]
  · by_cases h2 : j < t + d.size
    · rw [if_pos h2, if_neg h1, if_pos (by omega), andB_byte _ _ _ _ (by omega), byteOr_ext _ _ _ _ _ (by omega) (by omega), show t + (j - t) = j by omega]
    · rw [if_neg h2, if_neg (by omega), byteOr_ext _ _ _ _ _ (by omega) (by omega), show t + d.size + (j - (t + d.size)) = j by omega]

theorem Fl.put_put (f : Fl) (k : Int) (s u : ByteArray) : (f.put k s).put k u = f.put k u := by
  unfold Fl.put; by_cases h : k = 0 <;> simp [h]
theorem pgE_size {f g : Fl} {k t : Int} {d : ByteArray} (h : (f.bank k).size = (g.bank k).size) : pgE f k t d = pgE g k t d := by
  unfold pgE; rw [cutE_size h]
theorem pgE_twice (f : Fl) (k a b : Int) (s t : ByteArray) : pgE (pgF f k a s) k b t = pgE f k b t := pgE_size (pgF_size f k a s)
theorem pgF_twice (f : Fl) (k a : Int) (s : ByteArray) : pgF (pgF f k a s) k a s = pgF f k a s := by
  by_cases h : pgE f k a s = 0
  · have h2 : pgE (pgF f k a s) k a s = 0 := by rw [pgE_twice]; exact h
    obtain ⟨h3, h4, h5, _⟩ := pgE_of h
    have e : pgF f k a s = f.put k (progB (f.bank k) a.toNat s) := if_pos h
    rw [show pgF (pgF f k a s) k a s = (pgF f k a s).put k (progB ((pgF f k a s).bank k) a.toNat s) from if_pos h2, e, Fl.put_put, Fl.put_bank]
    congr 1
    have hb : a.toNat + s.size ≤ (f.bank k).size := by omega
    have hz := progB_size (f.bank k) s a.toNat hb
    apply bytes_eq (by rw [progB_size _ _ _ (by omega)])
    intro j hj
    rw [progB_size _ _ _ (by omega), hz] at hj
    rw [progB_byte _ _ _ (by omega) j (by omega), progB_byte _ _ _ hb j hj]
    split
    · rw [law_again]
    · rfl
  · rw [pgF_bad h, pgF_bad h]
theorem pgF_swap (f : Fl) (k a b : Int) (s t : ByteArray) : pgF (pgF f k a s) k b t = pgF (pgF f k b t) k a s := by
  by_cases h : pgE f k a s = 0
  · by_cases h' : pgE f k b t = 0
    · have h2 : pgE (pgF f k a s) k b t = 0 := by rw [pgE_twice]; exact h'
      have h2' : pgE (pgF f k b t) k a s = 0 := by rw [pgE_twice]; exact h
      obtain ⟨h3, h4, h5, _⟩ := pgE_of h
      obtain ⟨h3', h4', h5', _⟩ := pgE_of h'
      rw [show pgF (pgF f k a s) k b t = (pgF f k a s).put k (progB ((pgF f k a s).bank k) b.toNat t) from if_pos h2, show pgF (pgF f k b t) k a s = (pgF f k b t).put k (progB ((pgF f k b t).bank k) a.toNat s) from if_pos h2',
        show pgF f k a s = f.put k (progB (f.bank k) a.toNat s) from if_pos h, show pgF f k b t = f.put k (progB (f.bank k) b.toNat t) from if_pos h', Fl.put_put, Fl.put_bank, Fl.put_put, Fl.put_bank]
      congr 1
      have hb : a.toNat + s.size ≤ (f.bank k).size := by omega
      have hb' : b.toNat + t.size ≤ (f.bank k).size := by omega
      have hz := progB_size (f.bank k) s a.toNat hb
      have hz' := progB_size (f.bank k) t b.toNat hb'
      have y1 := progB_size (progB (f.bank k) a.toNat s) t b.toNat (by omega)
      have y2 := progB_size (progB (f.bank k) b.toNat t) s a.toNat (by omega)
      apply bytes_eq (by omega)
      intro j hj
      rw [y1, hz] at hj
      rw [progB_byte _ _ _ (by omega) j (by omega), progB_byte _ _ _ hb j hj, progB_byte _ _ _ (by omega) j (by omega), progB_byte _ _ _ hb' j hj]
      split <;> split <;> first | rfl | (rw [UInt8.and_assoc, UInt8.and_assoc, UInt8.and_comm (byteOr t 255 _)])
    · have h2 : pgE (pgF f k a s) k b t ≠ 0 := by rw [pgE_twice]; exact h'
      rw [pgF_bad h2, pgF_bad h']
  · have h2 : pgE (pgF f k b t) k a s ≠ 0 := by rw [pgE_twice]; exact h
    rw [pgF_bad h2, pgF_bad h]

/-- what was programmed is read -/
theorem sees_bad {f : Fl} {k t : Int} {d : ByteArray} (h : pgE f k t d ≠ 0) : (rdE f k t (d.size : Int) ≠ 0 ∧ pgE f k t d = rdE f k t (d.size : Int)) ∨ (rdE f k t (d.size : Int) = 0 ∧ pgE f k t d = 3) := by
  by_cases h1 : cutE f k t (d.size : Int) = 0
  · refine .inr ⟨h1, ?_⟩
    unfold pgE at h ⊢
    rw [if_neg (by omega)] at h ⊢
    split at h
    · rename_i h2; rw [if_pos h2]
    · contradiction
  · exact .inl ⟨h1, pgE_cut rfl h1⟩
theorem blank_and (s d : ByteArray) (h : blankS s = true) (hz : s.size = d.size) : andB s d = d := by
  apply bytes_eq (by rw [andB_size, hz])
  intro j hj
  rw [andB_size] at hj
  have hb : byteOr s 0 j = 255 := by
    rw [byteOr_lt _ _ _ hj]
    unfold blankS at h
    rw [List.all_eq_true] at h
    exact beq_iff_eq.1 (h _ (by show s[j] ∈ s.data.toList; exact Array.mem_toList_iff.2 (Array.getElem_mem (xs := s.data) hj)))
  rw [andB_byte _ _ _ _ hj, hb, UInt8.and_comm, law_255, byteOr_any (by omega) 255 0]
theorem sees_ok {f : Fl} {k t : Int} {d : ByteArray} (h : pgE f k t d = 0) : rdE f k t (d.size : Int) = 0 ∧ rdE (pgF f k t d) k t (d.size : Int) = 0 ∧ rdS (pgF f k t d) k t (d.size : Int) = andB (rdS f k t (d.size : Int)) d ∧ (rdS f k t (d.size : Int)).size = d.size := by
  obtain ⟨h3, h4, h5, _, _, h6⟩ := pgE_of h
  have h7 : cutE (pgF f k t d) k t (d.size : Int) = 0 := (cutE_size (pgF_size f k t d)).trans h6
  refine ⟨h6, h7, ?_, ?_⟩
  · rw [show rdS (pgF f k t d) k t (d.size : Int) = _ from if_pos h7, show rdS f k t (d.size : Int) = _ from if_pos h6, show pgF f k t d = f.put k (progB (f.bank k) t.toNat d) from if_pos h, Fl.put_bank, Int.toNat_natCast, progB_mid _ _ _ (by omega)]
  · rw [show rdS f k t (d.size : Int) = _ from if_pos h6, ByteArray.size_extract]; omega
end Go.Proofs.YtebkeocpojlepaaGreatDoor

/- flash.New, dogwatchref03.New; dogwatchref01.at, And. -/
namespace Go.Proofs.YtebkeocpojlepaaGreatDoor
open Go.RowKit
set_option linter.unusedVariables false
set_option linter.unusedSimpArgs false

theorem five_stores {w W3 : World} {A base : Nat} {t : TypeId} {u0 u1 u2 u3 u4 v0 v1 v2 v3 v4 : Value} (e0 : Blk W3 A t #[u0, u1, u2, u3, u4]) (hb : Below base w W3) (hA : base ≤ A) :
    Blk (((((W3.setCell ⟨A, 0, none⟩ v0).setCell ⟨A, 1, none⟩ v1).setCell ⟨A, 2, none⟩ v2).setCell ⟨A, 3, none⟩ v3).setCell ⟨A, 4, none⟩ v4) A t #[v0, v1, v2, v3, v4] ∧
    Below base w (((((W3.setCell ⟨A, 0, none⟩ v0).setCell ⟨A, 1, none⟩ v1).setCell ⟨A, 2, none⟩ v2).setCell ⟨A, 3, none⟩ v3).setCell ⟨A, 4, none⟩ v4) :=
  ⟨by simpa using (((((e0.set 0 v0).set 1 v1).set 2 v2).set 3 v3).set 4 v4),
   ((((hb.setCell (p := ⟨A, 0, none⟩) hA v0).setCell (p := ⟨A, 1, none⟩) hA v1).setCell (p := ⟨A, 2, none⟩) hA v2).setCell (p := ⟨A, 3, none⟩) hA v3).setCell (p := ⟨A, 4, none⟩) hA v4⟩

theorem New_any (n l : Int) (w : World) : Calls Tryz.prog 18 #[.int .i64 n, .int .i64 l] w fun e w' => e = .returned (flV (newF n l)) ∧ Below w.heap.size w w' := by
  have k0 := Blk.new w 30 #[.string ⟨#[]⟩, .string ⟨#[]⟩, .int .i64 0, .int .i64 0, .int .i64 0]
  have B0 : Below w.heap.size w (w.alloc (.cells #[.string ⟨#[]⟩, .string ⟨#[]⟩, .int .i64 0, .int .i64 0, .int .i64 0] 30)) := (Below.refl _ w).alloc (Nat.le_refl _) _
  by_cases h : n < 0 ∨ 400 < n ∨ l < 0 ∨ 1000 < l
  · have hF : newF n l = ⟨⟨#[]⟩, ⟨#[]⟩, 0, 0, 0⟩ := if_pos h
    rw [hF]
    have hc : n < 0 ∨ (0 ≤ n ∧ 400 < n) ∨ (0 ≤ n ∧ n ≤ 400 ∧ l < 0) ∨ (0 ≤ n ∧ n ≤ 400 ∧ 0 ≤ l ∧ 1000 < l) := by omega
    clear h
    rcases hc with h1 | ⟨h1, h2⟩ | ⟨h1, h2, h3⟩ | ⟨h1, h2, h3, h4⟩
    all_goals
      go_enter Tryz.func18, Tryz.ntmps18
      go_wp2
      exact bodyPost_ret (v := flV ⟨⟨#[]⟩, ⟨#[]⟩, 0, 0, 0⟩) (by simp [results, Tryz.results18, go_sem]) rfl ⟨rfl, B0⟩
  · have hF : newF n l = ⟨fullB n.toNat, fullB n.toNat, 0, 0, l⟩ := if_neg h
    rw [hF]
    obtain ⟨n, rfl⟩ := Int.eq_ofNat_of_zero_le (show 0 ≤ n by omega)
    have h2 : (n : Int) ≤ 400 := by omega
    have h3 : 0 ≤ l := by omega
    have h4 : l ≤ 1000 := by omega
    clear h
    rw [Int.toNat_natCast]
    have hrep : ∀ W, Calls Tryz.prog 33 #[.string ⟨#[255]⟩,.int .i64 (n : Int)] W fun e w' => e = .returned (.string (fullB n)) ∧ Below W.heap.size W w' := fun W => Repeat_any n (by omega) W
    generalize fullB n = F at *
    go_enter Tryz.func18, Tryz.ntmps18
    go_wp2_with (with_reducible refine (hrep _).mono ?_)
    rintro e w1 ⟨rfl, b1⟩
    have k1 := k0.below b1 k0.lt
    have B1 := bthen B0 b1
    clear k0 B0 b1
    have r0 := k1.cell 0
    have r1 := k1.cell 1
    have r2 := k1.cell 2
    have r3 := k1.cell 3
    have r4 := k1.cell 4
    have f0 := k1.frozen 0
    have f1 := k1.frozen 1
    have f2 := k1.frozen 2
    have f3 := k1.frozen 3
    have f4 := k1.frozen 4
    simp at r0 r1 r2 r3 r4
    go_wp2
    obtain ⟨g0, B2⟩ := five_stores (v0 := .string F) (v1 := .string F) (v2 := .int .i64 0) (v3 := .int .i64 0) (v4 := .int .i64 l) k1 B1 (Nat.le_refl _)
    clear r0 r1 r2 r3 r4 f0 f1 f2 f3 f4 k1
    generalize World.setCell (World.setCell (World.setCell (World.setCell (World.setCell w1 _ _) _ _) _ _) _ _) _ _ = W6 at *
    have r0 := g0.cell 0
    have r1 := g0.cell 1
    have r2 := g0.cell 2
    have r3 := g0.cell 3
    have r4 := g0.cell 4
    simp at r0 r1 r2 r3 r4
    exact bodyPost_ret (v := flV ⟨F, F, 0, 0, l⟩) (by simp [results, Tryz.results18, go_sem, r0, r1, r2, r3, r4]) rfl ⟨rfl, B2⟩
end Go.Proofs.YtebkeocpojlepaaGreatDoor

/- power.Do. -/
namespace Go.Proofs.YtebkeocpojlepaaGreatDoor
open Go.RowKit
set_option linter.unusedVariables false
set_option linter.unusedSimpArgs false

/-- an op -/
structure Oq where
  kind : Int
  bank : Int
  at_ : Int
  data : ByteArray
structure Oq.ok (o : Oq) : Prop where
  hk : (Lit.int .i64 o.kind).wf = true
  hb : (Lit.int .i64 o.bank).wf = true
  ha : (Lit.int .i64 o.at_).wf = true
  hd : o.data.size ≤ maxLen
abbrev oqV (o : Oq) : Value := .agg #[.int .i64 o.kind, .int .i64 o.bank, .int .i64 o.at_, .string o.data]
def doE (f : Fl) (o : Oq) : Int := if o.kind = 1 then pgE f o.bank o.at_ o.data else if o.kind = 2 then erE f o.bank else 1
def doF (f : Fl) (o : Oq) : Fl := if o.kind = 1 then pgF f o.bank o.at_ o.data else if o.kind = 2 then erF f o.bank else f


set_option maxHeartbeats 1000000 in
theorem Do_any (f : Fl) (hf : f.ok) (o : Oq) (ho : o.ok) (w : World) :
    Calls Tryz.prog 95 #[flV f, oqV o] w fun e w' => e = .returned (.tuple #[flV (doF f o), .int .i64 (doE f o)]) ∧ Below w.heap.size w w' := by
  have hP := Program_any f hf o.bank o.at_ o.data ho.hb ho.ha ho.hd
  have hE := Erase_any f hf o.bank ho.hb
  have K0 := Blk.new ((w.alloc (.cells #[.string f.a, .string f.b, .int .i64 f.x, .int .i64 f.y, .int .i64 f.l] 30)).alloc (.cells #[.int .i64 o.kind, .int .i64 o.bank, .int .i64 o.at_, .string o.data] 161)) 30 #[.string ⟨#[]⟩, .string ⟨#[]⟩, .int .i64 0, .int .i64 0, .int .i64 0]
  rw [World.size_alloc, World.size_alloc] at K0
  have B0 : Below w.heap.size w (((w.alloc (.cells #[.string f.a, .string f.b, .int .i64 f.x, .int .i64 f.y, .int .i64 f.l] 30)).alloc (.cells #[.int .i64 o.kind, .int .i64 o.bank, .int .i64 o.at_, .string o.data] 161)).alloc (.cells #[.string ⟨#[]⟩, .string ⟨#[]⟩, .int .i64 0, .int .i64 0, .int .i64 0] 30)) :=
    (((Below.refl _ w).alloc (Nat.le_refl _) _).alloc (by simp) _).alloc (by simp; omega) _
  have HB0 := Lib.hid B0
  have HK0 := Lib.hid K0
  clear B0 K0
  obtain ⟨K, bk, at_, d⟩ := o
  simp only at *
  by_cases h1 : K = 1
  · have eE : doE f ⟨K, bk, at_, d⟩ = pgE f bk at_ d := if_pos h1
    have eF : doF f ⟨K, bk, at_, d⟩ = pgF f bk at_ d := if_pos h1
    rw [eE, eF]
    subst h1
    clear eE eF hE
    generalize pgE f bk at_ d = E at *
    generalize pgF f bk at_ d = R at *
    go_enter Tryz.func95, Tryz.ntmps95
    go_wp2_with fail
    generalize World.alloc (World.alloc (World.alloc w _) _) _ = W0 at *
    refine (hP _).mono ?_
    rintro e w1 ⟨rfl, b1⟩
    have k1 := Blk.below HK0.out b1 HK0.out.lt
    have B1 := bthen HB0.out b1
    have r0 := k1.cell 0
    have r1 := k1.cell 1
    have r2 := k1.cell 2
    have r3 := k1.cell 3
    have r4 := k1.cell 4
    have f0 := k1.frozen 0
    have f1 := k1.frozen 1
    have f2 := k1.frozen 2
    have f3 := k1.frozen 3
    have f4 := k1.frozen 4
    simp at r0 r1 r2 r3 r4
    clear b1 HB0 HK0
    go_wp2
    obtain ⟨g0, B2⟩ := five_stores (v0 := .string R.a) (v1 := .string R.b) (v2 := .int .i64 R.x) (v3 := .int .i64 R.y) (v4 := .int .i64 R.l) k1 B1 (by omega)
    clear r0 r1 r2 r3 r4 f0 f1 f2 f3 f4 k1
    generalize World.setCell (World.setCell (World.setCell (World.setCell (World.setCell w1 _ _) _ _) _ _) _ _) _ _ = W6 at *
    have r0 := g0.cell 0
    have r1 := g0.cell 1
    have r2 := g0.cell 2
    have r3 := g0.cell 3
    have r4 := g0.cell 4
    simp at r0 r1 r2 r3 r4
    exact bodyPost_ret (v := .tuple #[flV R, .int .i64 E]) (by simp [results, Tryz.results95, go_sem, r0, r1, r2, r3, r4]) rfl ⟨rfl, B2⟩
  · by_cases h2 : K = 2
    · have eE : doE f ⟨K, bk, at_, d⟩ = erE f bk := by unfold doE; rw [if_neg h1, if_pos h2]
      have eF : doF f ⟨K, bk, at_, d⟩ = erF f bk := by unfold doF; rw [if_neg h1, if_pos h2]
      rw [eE, eF]
      subst h2
      clear eE eF hP h1
      generalize erE f bk = E at *
      generalize erF f bk = R at *
      go_enter Tryz.func95, Tryz.ntmps95
      go_wp2_with fail
      generalize World.alloc (World.alloc (World.alloc w _) _) _ = W0 at *
      refine (hE _).mono ?_
      rintro e w1 ⟨rfl, b1⟩
      have k1 := Blk.below HK0.out b1 HK0.out.lt
      have B1 := bthen HB0.out b1
      have r0 := k1.cell 0
      have r1 := k1.cell 1
      have r2 := k1.cell 2
      have r3 := k1.cell 3
      have r4 := k1.cell 4
      have f0 := k1.frozen 0
      have f1 := k1.frozen 1
      have f2 := k1.frozen 2
      have f3 := k1.frozen 3
      have f4 := k1.frozen 4
      simp at r0 r1 r2 r3 r4
      clear b1 HB0 HK0
      go_wp2
      obtain ⟨g0, B2⟩ := five_stores (v0 := .string R.a) (v1 := .string R.b) (v2 := .int .i64 R.x) (v3 := .int .i64 R.y) (v4 := .int .i64 R.l) k1 B1 (by omega)
      clear r0 r1 r2 r3 r4 f0 f1 f2 f3 f4 k1
      generalize World.setCell (World.setCell (World.setCell (World.setCell (World.setCell w1 _ _) _ _) _ _) _ _) _ _ = W6 at *
      have r0 := g0.cell 0
      have r1 := g0.cell 1
      have r2 := g0.cell 2
      have r3 := g0.cell 3
      have r4 := g0.cell 4
      simp at r0 r1 r2 r3 r4
      exact bodyPost_ret (v := .tuple #[flV R, .int .i64 E]) (by simp [results, Tryz.results95, go_sem, r0, r1, r2, r3, r4]) rfl ⟨rfl, B2⟩
    · have eE : doE f ⟨K, bk, at_, d⟩ = 1 := by unfold doE; rw [if_neg h1, if_neg h2]
      have eF : doF f ⟨K, bk, at_, d⟩ = f := by unfold doF; rw [if_neg h1, if_neg h2]
      rw [eE, eF]
      have n1 : (K == 1) = false := by simpa using h1
      have n2 : (K == 2) = false := by simpa using h2
      clear eE eF hP hE h1 h2
      go_enter Tryz.func95, Tryz.ntmps95
      go_wp2
      exact bodyPost_ret (v := .tuple #[flV f, .int .i64 1]) (by simp [results, Tryz.results95, go_sem]) rfl ⟨rfl, ((((Below.refl _ w).alloc (Nat.le_refl _) _).alloc (by simp) _).alloc (by simp; omega) _)⟩
end Go.Proofs.YtebkeocpojlepaaGreatDoor

/- power.odd (under way). -/
namespace Go.Proofs.YtebkeocpojlepaaGreatDoor
open Go.RowKit
set_option linter.unusedVariables false
set_option linter.unusedSimpArgs false

/-- the byte of the odd mask at a place -/
def oddAt (m : ByteArray) (j : Nat) : UInt8 := if (byteOr m 0 j).toNat % 2 = 1 then 255 else 0
def oddR (m : ByteArray) (n k : Nat) : List UInt8 := (List.range n).map fun j => if j < k then oddAt m j else 0
theorem oddR_length (m : ByteArray) (n k : Nat) : (oddR m n k).length = n := by simp [oddR]
theorem oddR_zero (m : ByteArray) (n : Nat) : oddR m n 0 = List.replicate n 0 := by
  apply List.ext_getElem?
  intro j
  unfold oddR
  rw [List.getElem?_map, List.getElem?_replicate]
  by_cases h : j < n
  · simp [List.getElem?_range h, h]
  · simp [h]
theorem oddR_set (m : ByteArray) (n k : Nat) (h : k < n) : (oddR m n k).set k (oddAt m k) = oddR m n (k + 1) := by
  apply List.ext_getElem?
  intro j
  rw [List.getElem?_set]
  unfold oddR
  by_cases hj : k = j
  · subst hj
    simp [h]
  · rw [if_neg hj, List.getElem?_map, List.getElem?_map]
    by_cases hn : j < n
    · rw [List.getElem?_range hn]
      simp only [Option.map_some]
      by_cases h1 : j < k
      · rw [if_pos h1, if_pos (by omega)]
      · rw [if_neg h1, if_neg (by omega)]
    · rw [List.getElem?_eq_none (by simp; omega)]; rfl
theorem oddR_full (m : ByteArray) (n k : Nat) (h : k = min n m.size) (hz : ∀ j, m.size ≤ j → oddAt m j = 0) : oddR m n k = oddR m n n := by
  apply List.ext_getElem?
  intro j
  unfold oddR
  rw [List.getElem?_map, List.getElem?_map]
  by_cases hn : j < n
  · rw [List.getElem?_range hn]
    simp only [Option.map_some]
    rw [if_pos hn]
    by_cases h1 : j < k
    · rw [if_pos h1]
    · rw [if_neg h1, hz j (by omega)]
  · rw [List.getElem?_eq_none (by simp; omega)]; rfl
end Go.Proofs.YtebkeocpojlepaaGreatDoor

/- power.odd: the walk. -/
namespace Go.Proofs.YtebkeocpojlepaaGreatDoor
open Go.RowKit
set_option linter.unusedVariables false
set_option linter.unusedSimpArgs false

theorem odd_byte : ∀ b : Fin 256, -bits BinOp.and IntKind.u8 (b.1 : Int) 1 % 256 = (((if b.1 % 2 = 1 then 255 else 0 : UInt8).toNat : Nat) : Int) := by decide +kernel
theorem odd_at (m : ByteArray) (k : Nat) (h : k < m.size) : -bits BinOp.and IntKind.u8 ((m[k]'h).toNat : Int) 1 % 256 = ((oddAt m k).toNat : Int) := by
  have h1 := odd_byte ⟨(m[k]'h).toNat, UInt8.toNat_lt _⟩
  have h2 : byteOr m 0 k = m[k]'h := by unfold byteOr; rw [List.getD_eq_getElem?_getD, List.getElem?_eq_getElem (by simpa using h)]; rfl
  unfold oddAt
  rw [h2]
  exact h1

theorem Odd_any (m : ByteArray) (hm : m.size ≤ 1000) (n : Nat) (hn : n ≤ 1000) (w : World) :
    Calls Tryz.prog 120 #[.string m, .int .i64 (n : Int)] w fun e w' => e = .returned (.string ⟨(oddR m n n).toArray⟩) ∧ Below w.heap.size w w' := by
  have hmk := mk_bytes n (by omega)
  obtain ⟨q, hq⟩ : ∃ q : Nat, min (n : Int) (m.size : Int) = (q : Int) := ⟨min n m.size, by omega⟩
  have hqn : q ≤ n := by omega
  have hqm : q ≤ m.size := by omega
  have hfull := Lib.hid (oddR_full m n q (by omega) (fun j hj => by unfold oddAt byteOr; rw [List.getD_eq_getElem?_getD, List.getElem?_eq_none (by simpa using hj)]; rfl))
  go_enter Tryz.func120, Tryz.ntmps120
  go_wp2
  have b0 := Blk.new w 5 (bcells (List.replicate n 0)).toArray
  have hB0 : Below w.heap.size w (w.alloc (.cells (bcells (List.replicate n 0)).toArray 5)) := (Below.refl _ w).alloc (Nat.le_refl _) _
  rw [← oddR_zero m n] at b0 hB0
  simp only [← oddR_zero m n]
  generalize (w.alloc (.cells (bcells (oddR m n 0)).toArray 5)) = W1 at *
  go_loopw [13] (fun i wr => ∃ k : Nat, k ≤ q ∧ i = .int .i64 k ∧ Blk wr w.heap.size 5 (bcells (oddR m n k)).toArray ∧ Below w.heap.size w wr) (fun i _ => q - (intOf i).toNat)
  case atStart => exact ⟨0, by omega, rfl, b0, hB0⟩
  case round =>
    obtain ⟨k, hk, rfl, bR, hbr⟩ := hrel
    by_cases hlt : k < q
    · have hol := oddR_length m n k
      have cS : wr.cell? ⟨w.heap.size, k, none⟩ = some (.int .u8 (((oddR m n k)[k]'(by omega)).toNat : Int)) := by rw [bR.cell]; simp [bcells, hol, show k < n by omega]
      have fS := bR.frozen k
      have hset := bcells_set (oddR m n k) k (oddAt m k)
      have bR2 := bR.set k (.int .u8 ((oddAt m k).toNat : Int))
      rw [hset, oddR_set m n k (by omega)] at bR2
      have hkm : k < m.size := by omega
      have hkn : k < n := by omega
      have HB := Lib.hid bR2
      have HL := Lib.hid (hbr.setCell (p := ⟨w.heap.size, k, none⟩) (Nat.le_refl _) (.int .u8 ((oddAt m k).toNat : Int)))
      clear bR2 hset bR
      have hob := Lib.hid (odd_at m k hkm)
      go_wp2
      go_roundw
      case rel => exact ⟨k + 1, by omega, by go_num, by rw [hob.out]; exact HB.out, by rw [hob.out]; exact HL.out⟩
      case measure => simp [intOf]; omega
    · have hk2 : k = q := by omega
      subst hk2
      have hcv := conv_cells wr w.heap.size 0 n (oddR m n k) (fun j hj => by rw [Nat.zero_add, bR.cell]; simp [bcells, hj])
      rw [oddR_length m n k, hfull.out] at hcv
      go_wp2
      go_ret
      exact ⟨rfl, hbr⟩
end Go.Proofs.YtebkeocpojlepaaGreatDoor

/- power.invert. -/
namespace Go.Proofs.YtebkeocpojlepaaGreatDoor
open Go.RowKit
set_option linter.unusedVariables false
set_option linter.unusedSimpArgs false

def invR (l : List UInt8) (k : Nat) : List UInt8 := (List.range l.length).map fun j => if j < k then ~~~ (l.getD j 0) else l.getD j 0
theorem invR_length (l : List UInt8) (k : Nat) : (invR l k).length = l.length := by simp [invR]
theorem invR_zero (l : List UInt8) : invR l 0 = l := by
  apply List.ext_getElem (by simp [invR])
  intro j h1 h2
  simp [invR, List.getD_eq_getElem?_getD, List.getElem?_eq_getElem h2]
theorem invR_get (l : List UInt8) (k : Nat) (h : k < l.length) : (invR l k)[k]'(by rw [invR_length]; exact h) = l.getD k 0 := by simp [invR]
theorem invR_set (l : List UInt8) (k : Nat) (h : k < l.length) : (invR l k).set k (~~~ (l.getD k 0)) = invR l (k + 1) := by
  apply List.ext_getElem (by simp [invR])
  intro j h1 h2
  rw [List.getElem_set]
  by_cases hj : k = j
  · subst hj; simp [invR]
  · rw [if_neg hj]
    simp only [invR, List.getElem_map, List.getElem_range]
    by_cases h3 : j < k
    · rw [if_pos h3, if_pos (by omega)]
    · rw [if_neg h3, if_neg (by omega)]
end Go.Proofs.YtebkeocpojlepaaGreatDoor

/- power.invert: the walk. -/
namespace Go.Proofs.YtebkeocpojlepaaGreatDoor
open Go.RowKit
set_option linter.unusedVariables false
set_option linter.unusedSimpArgs false

theorem inv_byte : ∀ b : Fin 256, bits BinOp.xor IntKind.u8 (if IntKind.u8.signed = true then -1 else IntKind.u8.max) (b.1 : Int) = (((~~~ (UInt8.ofNat b.1)).toNat : Nat) : Int) := by decide +kernel
theorem inv_at (x : UInt8) : bits BinOp.xor IntKind.u8 (if IntKind.u8.signed = true then -1 else IntKind.u8.max) (x.toNat : Int) = ((~~~ x).toNat : Int) := by
  have := inv_byte ⟨x.toNat, UInt8.toNat_lt _⟩
  rw [UInt8.ofNat_toNat] at this
  exact this

theorem Invert_any (m : ByteArray) (hm : m.size ≤ 1000) (w : World) :
    Calls Tryz.prog 119 #[.string m] w fun e w' => e = .returned (.string ⟨(invR m.data.toList m.size).toArray⟩) ∧ Below w.heap.size w w' := by
  have hcv := fun w : World => run_bytes_of_string (P := Tryz.prog) w 9 108 5 m Tryz.underlying9 Tryz.underlying108 Tryz.underlying5
  go_enter Tryz.func119, Tryz.ntmps119
  go_wp2
  have hr1 := Row.ofString w m (grownCap w m.size 0 5) _ (bytesRow_size m (grownCap w m.size 0 5))
  have hbl := (Below.refl w.heap.size w).alloc (Nat.le_refl _) (.cells (bytesRow m (grownCap w m.size 0 5)) 5 ((bytesRow m (grownCap w m.size 0 5)).size, (bytesRow m (grownCap w m.size 0 5)).size + 1))
  generalize grownCap w m.size 0 5 = C at *
  generalize w.alloc (.cells (bytesRow m C) 5 ((bytesRow m C).size, (bytesRow m C).size + 1)) = W1 at *
  have hl : m.data.toList.length = m.size := by simp
  rw [← invR_zero m.data.toList] at hr1
  go_loopw [9] (fun i wr => ∃ k : Nat, k ≤ m.size ∧ i = .int .i64 k ∧ Row wr w.heap.size (invR m.data.toList k) ∧ Below w.heap.size w wr) (fun i _ => m.size - (intOf i).toNat)
  case atStart => exact ⟨0, by omega, rfl, hr1, hbl.drew⟩
  case round =>
    obtain ⟨k, hk, rfl, hR, hbr⟩ := hrel
    have hlen := invR_length m.data.toList k
    by_cases hlt : k < m.size
    · obtain ⟨x, hx⟩ : ∃ x, x = m.data.toList.getD k 0 := ⟨_, rfl⟩
      have c1 := (hR k (by omega)).1
      have c2 := (hR k (by omega)).2
      rw [invR_get _ _ (by omega), ← hx] at c1
      have hs := hR.set k (~~~ x)
      rw [show (~~~ x) = ~~~ (m.data.toList.getD k 0) by rw [hx], invR_set _ _ (by omega), ← hx] at hs
      have HS := Lib.hid hs
      have HB := Lib.hid (hbr.setCell (p := ⟨w.heap.size, k, none⟩) (Nat.le_refl _) (.int .u8 ((~~~ x).toNat : Int)))
      have HX := Lib.hid hx
      clear hs hx hR hr1 hl hlen
      have hob := Lib.hid (inv_at x)
      go_wp2
      go_roundw
      case rel => exact ⟨k + 1, by omega, by go_num, by rw [hob.out]; exact HS.out, by rw [hob.out]; exact HB.out⟩
      case measure => simp [intOf]; omega
    · have hk2 : k = m.size := by omega
      subst hk2
      have hcc := fun cap : Nat => conv_cells wr w.heap.size 0 cap (invR m.data.toList m.size) (fun j hj => by rw [Nat.zero_add]; exact (hR j hj).1)
      simp only [hlen, hl] at hcc
      have hd : decide ((m.size : Int) < (m.size : Int)) = false := by simp
      clear hr1 hl hlen hcv
      go_wp2
      go_ret
      exact ⟨rfl, hbr⟩
end Go.Proofs.YtebkeocpojlepaaGreatDoor

/- power.Tear: what it is; the way on which Do goes wrong. -/
namespace Go.Proofs.YtebkeocpojlepaaGreatDoor
open Go.RowKit
set_option linter.unusedVariables false
set_option linter.unusedSimpArgs false

/-- bytes, of which those from i to j are torn -/
def midB (was is mask : ByteArray) (i j : Nat) : ByteArray := was.extract 0 i ++ tornB (was.extract i j) (is.extract i j) mask ++ was.extract j was.size
/-- the mask of an erase -/
def invB (mask : ByteArray) (n : Nat) : ByteArray := ⟨(invR (oddR mask n n) n).toArray⟩
def tearS (f : Fl) (o : Oq) (mask : ByteArray) : ByteArray :=
  if o.kind = 2 then midB ((doF f o).bank o.bank) (f.bank o.bank) (invB mask (f.bank o.bank).size) 0 (f.bank o.bank).size
  else midB (f.bank o.bank) ((doF f o).bank o.bank) mask o.at_.toNat (o.at_.toNat + o.data.size)
def tearF (f : Fl) (o : Oq) (mask : ByteArray) : Fl := if doE f o = 0 then (doF f o).put o.bank (tearS f o mask) else f
theorem doF_bad {f : Fl} {o : Oq} (h : doE f o ≠ 0) : doF f o = f := by
  unfold doE at h
  unfold doF
  split
  · rename_i h1; rw [if_pos h1] at h; exact pgF_bad h
  · rename_i h1
    rw [if_neg h1] at h
    split
    · rename_i h2; rw [if_pos h2] at h; exact if_neg h
    · rfl
end Go.Proofs.YtebkeocpojlepaaGreatDoor

/- '==' of two flashes. -/
namespace Go.Proofs.YtebkeocpojlepaaGreatDoor
open Go.RowKit
set_option linter.unusedVariables false
set_option linter.unusedSimpArgs false

theorem beq_ba (a b : ByteArray) : (a == b) = (a.toList == b.toList) := by
  rw [toList_data, toList_data]
  obtain ⟨x⟩ := a
  obtain ⟨y⟩ := b
  show (x == y) = (x.toList == y.toList)
  rw [Array.beq_toList]
theorem eq_strs (s t u v : ByteArray) (w : World) : (Op.equalIn 9999 27 (.agg #[.string s, .string t]) (.agg #[.string u, .string v])).run Tryz.prog w = .ok (s.toList == u.toList && t.toList == v.toList) w := by
  unfold Op.equalIn
  simp [go_sem, Tryz.underlying27]
  rw [show List.range' 0 2 = [0, 1] from rfl]
  have h9 : ∀ (a b : ByteArray) (w : World), (Op.equalIn 9998 9 (.string a) (.string b)).run Tryz.prog w = .ok (a.toList == b.toList) w := fun a b w => by
    unfold Op.equalIn
    simp [go_sem, Tryz.underlying9, beq_ba]
  simp [go_sem, List.forIn_cons, List.forIn_nil, Tryz.isAgg9, h9]
  by_cases e1 : s.toList = u.toList <;> by_cases e2 : t.toList = v.toList <;> simp [e1, e2, go_sem, h9]
theorem eq_ints (s t u v : Int) (w : World) : (Op.equalIn 9999 28 (.agg #[.int .i64 s, .int .i64 t]) (.agg #[.int .i64 u, .int .i64 v])).run Tryz.prog w = .ok (s == u && t == v) w := by
  unfold Op.equalIn
  simp [go_sem, Tryz.underlying28]
  rw [show List.range' 0 2 = [0, 1] from rfl]
  have h9 : ∀ (a b : Int) (w : World), (Op.equalIn 9998 3 (.int .i64 a) (.int .i64 b)).run Tryz.prog w = .ok (a == b) w := fun a b w => by
    unfold Op.equalIn
    simp [go_sem, Tryz.underlying3]
  simp [go_sem, List.forIn_cons, List.forIn_nil, Tryz.isAgg3, h9]
  by_cases e1 : s = u <;> by_cases e2 : t = v <;> simp [e1, e2, go_sem, h9]
theorem eq_ints_top (s t u v : Int) (w : World) : (Op.equalIn 10000 28 (.agg #[.int .i64 s, .int .i64 t]) (.agg #[.int .i64 u, .int .i64 v])).run Tryz.prog w = .ok (s == u && t == v) w := by
  unfold Op.equalIn
  simp [go_sem, Tryz.underlying28]
  rw [show List.range' 0 2 = [0, 1] from rfl]
  have h9 : ∀ (a b : Int) (w : World), (Op.equalIn 9999 3 (.int .i64 a) (.int .i64 b)).run Tryz.prog w = .ok (a == b) w := fun a b w => by
    unfold Op.equalIn
    simp [go_sem, Tryz.underlying3]
  simp [go_sem, List.forIn_cons, List.forIn_nil, Tryz.isAgg3, h9]
  by_cases e1 : s = u <;> by_cases e2 : t = v <;> simp [e1, e2, go_sem, h9]
end Go.Proofs.YtebkeocpojlepaaGreatDoor
