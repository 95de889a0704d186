/- flash.Read, Program, Erase: what they answer. -/
import Derived.Test.YthagnnaemcknfaaCut
import Derived.Test.YthagnnaemcknfaaAndB
import Derived.Test.YthagnnaemcknfaaShelf
namespace Go.Proofs.Ythagnnaemcknfaa
open Go.RowKit
set_option linter.unusedVariables false
set_option linter.unusedSimpArgs false

theorem self_stores {w W3 : World} {A B base : Nat} {t t' : TypeId} {v0 v1 v2 v3 v4 v5 : Value} (e0 : Blk W3 A t #[v0, v1, v2, v3, v4]) (e1 : Blk W3 B t' #[v5]) (hAB : A ≠ B) (hb : Below base w W3) (hA : base ≤ A) (hB : base ≤ B) :
    Blk ((((((W3.setCell ⟨A, 0, none⟩ v0).setCell ⟨A, 1, none⟩ v1).setCell ⟨A, 2, none⟩ v2).setCell ⟨A, 3, none⟩ v3).setCell ⟨A, 4, none⟩ v4).setCell ⟨B, 0, none⟩ v5) A t #[v0, v1, v2, v3, v4] ∧
    Blk ((((((W3.setCell ⟨A, 0, none⟩ v0).setCell ⟨A, 1, none⟩ v1).setCell ⟨A, 2, none⟩ v2).setCell ⟨A, 3, none⟩ v3).setCell ⟨A, 4, none⟩ v4).setCell ⟨B, 0, none⟩ v5) B t' #[v5] ∧
    Below base w ((((((W3.setCell ⟨A, 0, none⟩ v0).setCell ⟨A, 1, none⟩ v1).setCell ⟨A, 2, none⟩ v2).setCell ⟨A, 3, none⟩ v3).setCell ⟨A, 4, none⟩ v4).setCell ⟨B, 0, none⟩ v5) :=
  ⟨by simpa using (((((e0.set 0 v0).set 1 v1).set 2 v2).set 3 v3).set 4 v4).other ⟨B, 0, none⟩ hAB v5,
   by simpa using (((((e1.other ⟨A, 0, none⟩ (Ne.symm hAB) v0).other ⟨A, 1, none⟩ (Ne.symm hAB) v1).other ⟨A, 2, none⟩ (Ne.symm hAB) v2).other ⟨A, 3, none⟩ (Ne.symm hAB) v3).other ⟨A, 4, none⟩ (Ne.symm hAB) v4).set 0 v5,
   (((((hb.setCell (p := ⟨A, 0, none⟩) hA v0).setCell (p := ⟨A, 1, none⟩) hA v1).setCell (p := ⟨A, 2, none⟩) hA v2).setCell (p := ⟨A, 3, none⟩) hA v3).setCell (p := ⟨A, 4, none⟩) hA v4).setCell (p := ⟨B, 0, none⟩) hB v5⟩


theorem Program_bad (a b d : ByteArray) (x y l k t E : Int) (w : World)
    (hcut : ∀ W, Calls Try.prog 22 #[flashV a b x y l, .int .i64 k, .int .i64 t, .int .i64 (d.size : Int)] W fun e w' => e = .panicked [{ v := .iface 31 (.int .i64 E), recovered := false }] ∧ Below W.heap.size W w') :
    Calls Try.prog 17 #[flashV a b x y l, .int .i64 k, .int .i64 t, .string d] w fun e w' =>
      e = .returned (.tuple #[flashV a b x y l, .int .i64 E]) ∧ Below w.heap.size w w' := by
  go_enter_defers Try.func17, Try.ntmps17
  go_wp2_with (with_reducible refine (hcut _).mono ?_)
  rintro e w1 ⟨rfl, b1⟩
  have k0 := (Blk.new (w.alloc (.cells (flashC a b x y l) 25)) 25 (flashC a b x y l)).alloc (.cells #[.int .i64 0] 31)
  have k1 := Blk.new ((w.alloc (.cells (flashC a b x y l) 25)).alloc (.cells (flashC a b x y l) 25)) 31 #[.int .i64 0]
  have B1 : Below w.heap.size w (((w.alloc (.cells (flashC a b x y l) 25)).alloc (.cells (flashC a b x y l) 25)).alloc (.cells #[.int .i64 0] 31)) := (((Below.refl _ w).alloc (Nat.le_refl _) _).alloc (by simp) _).alloc (by simp; omega) _
  simp only [World.size_alloc] at k0 k1
  have c0 := k0.below b1 k0.lt
  have c1 := k1.below b1 k1.lt
  have B2 := bthen B1 b1
  clear k0 k1 B1 b1
  go_wp2
  refine leaves_cons (f := 21) (args := #[.pointer (some ⟨w.heap.size + 1 + 1, 0, none⟩)]) (by simp) (by simp [go_sem]) ?_
  refine (caught_panicking ⟨w.heap.size + 1 + 1, 0, none⟩ 0 E [] _ (c1.cell 0) (c1.frozen 0)).mono ?_
  rintro e u' w2 ⟨rfl, rfl, rfl⟩
  have k3 := (c1.set 0 (.int .i64 E)).cell 0
  have k4 := c0.other ⟨w.heap.size + 1 + 1, 0, none⟩ (by simp) (.int .i64 E)
  have B3 := B2.setCell (p := ⟨w.heap.size + 1 + 1, 0, none⟩) (by simp; omega) (.int .i64 E)
  generalize w1.setCell ⟨w.heap.size + 1 + 1, 0, none⟩ (.int .i64 E) = w3 at *
  have r0 := k4.cell 0
  have r1 := k4.cell 1
  have r2 := k4.cell 2
  have r3 := k4.cell 3
  have r4 := k4.cell 4
  simp at k3 r0 r1 r2 r3 r4
  simp [Leaves, settle, results, Try.results17, go_sem, k3, r0, r1, r2, r3, r4]
  exact B3

/-- what is programmed: the new bytes of the bank -/
def progB (s : ByteArray) (t : Nat) (d : ByteArray) : ByteArray := s.extract 0 t ++ andB (s.extract t (t + d.size)) d ++ s.extract (t + d.size) s.size

theorem Program_align (a b d : ByteArray) (x y l : Int) (t : Nat) (k : Int) (s : ByteArray) (hk : (k = 0 ∧ s = a) ∨ (k = 1 ∧ s = b)) (h : t + d.size ≤ s.size) (hs : s.size ≤ 1000)
    (hpar : (bits .and .i64 (bits .or .i64 (t : Int) (d.size : Int)) 1 != 0) = true) (w : World) :
    Calls Try.prog 17 #[flashV a b x y l, .int .i64 k, .int .i64 (t : Int), .string d] w fun e w' =>
      e = .returned (.tuple #[flashV a b x y l, .int .i64 3]) ∧ Below w.heap.size w w' := by
  go_enter_defers Try.func17, Try.ntmps17
  go_wp2_with (with_reducible refine (cut_ok a b x y l t d.size k s hk h hs _).mono ?_)
  rintro e w1 ⟨rfl, b1⟩
  have k0 := (Blk.new (w.alloc (.cells (flashC a b x y l) 25)) 25 (flashC a b x y l)).alloc (.cells #[.int .i64 0] 31)
  have k1 := Blk.new ((w.alloc (.cells (flashC a b x y l) 25)).alloc (.cells (flashC a b x y l) 25)) 31 #[.int .i64 0]
  have B1 : Below w.heap.size w (((w.alloc (.cells (flashC a b x y l) 25)).alloc (.cells (flashC a b x y l) 25)).alloc (.cells #[.int .i64 0] 31)) := (((Below.refl _ w).alloc (Nat.le_refl _) _).alloc (by simp) _).alloc (by simp; omega) _
  simp only [World.size_alloc] at k0 k1
  have c0 := k0.below b1 k0.lt
  have c1 := k1.below b1 k1.lt
  have B2 := bthen B1 b1
  clear k0 k1 B1 b1
  generalize s.extract 0 t = X1 at *
  generalize s.extract t (t + d.size) = X2 at *
  generalize s.extract (t + d.size) s.size = X3 at *
  go_wp2
  refine leaves_cons (f := 21) (args := #[.pointer (some ⟨w.heap.size + 1 + 1, 0, none⟩)]) (by simp) (by simp [go_sem]) ?_
  refine (caught_panicking ⟨w.heap.size + 1 + 1, 0, none⟩ 0 3 [] _ (c1.cell 0) (c1.frozen 0)).mono ?_
  rintro e u' w2 ⟨rfl, rfl, rfl⟩
  have k3 := (c1.set 0 (.int .i64 3)).cell 0
  have k4 := c0.other ⟨w.heap.size + 1 + 1, 0, none⟩ (by simp) (.int .i64 3)
  have B3 := B2.setCell (p := ⟨w.heap.size + 1 + 1, 0, none⟩) (by simp; omega) (.int .i64 3)
  generalize w1.setCell ⟨w.heap.size + 1 + 1, 0, none⟩ (.int .i64 3) = w3 at *
  have r0 := k4.cell 0
  have r1 := k4.cell 1
  have r2 := k4.cell 2
  have r3 := k4.cell 3
  have r4 := k4.cell 4
  simp at k3 r0 r1 r2 r3 r4
  simp [Leaves, settle, results, Try.results17, go_sem, k3, r0, r1, r2, r3, r4]
  exact B3

set_option maxHeartbeats 1000000 in
theorem Program_ok (a b d : ByteArray) (x y l : Int) (t : Nat) (k : Int) (s P a' b' : ByteArray) (hk : (k = 0 ∧ a = s ∧ P = a' ∧ b = b') ∨ (k = 1 ∧ b = s ∧ a = a' ∧ P = b')) (hP : P = progB s t d) (h : t + d.size ≤ s.size) (hs : s.size ≤ 1000)
    (hpar : (bits .and .i64 (bits .or .i64 (t : Int) (d.size : Int)) 1 != 0) = false) (w : World) :
    Calls Try.prog 17 #[flashV a b x y l, .int .i64 k, .int .i64 (t : Int), .string d] w fun e w' =>
      e = .returned (.tuple #[flashV a' b' x y l, .int .i64 0]) ∧ Below w.heap.size w w' := by
  have hk' : (k = 0 ∧ s = a) ∨ (k = 1 ∧ s = b) := by rcases hk with ⟨h1, h2, _⟩ | ⟨h1, h2, _⟩ <;> simp [h1, h2]
  have z1 : (s.extract 0 t).size = t := by rw [ByteArray.size_extract]; omega
  have z2 : (s.extract t (t + d.size)).size = d.size := by rw [ByteArray.size_extract]; omega
  have z3 : (s.extract (t + d.size) s.size).size = s.size - (t + d.size) := by rw [ByteArray.size_extract]; omega
  have z4 := andB_size (s.extract t (t + d.size)) d
  have hcut : ∀ W, Calls Try.prog 22 #[flashV a b x y l, .int .i64 k, .int .i64 (t : Int), .int .i64 (d.size : Int)] W fun e w' =>
      e = .returned (.tuple #[.string (s.extract 0 t), .string (s.extract t (t + d.size)), .string (s.extract (t + d.size) s.size)]) ∧ Below W.heap.size W w' := fun W => cut_ok a b x y l t d.size k s hk' h hs W
  unfold progB at hP
  generalize s.extract 0 t = X1 at *
  generalize s.extract t (t + d.size) = X2 at *
  generalize s.extract (t + d.size) s.size = X3 at *
  have hAnd : ∀ W, Calls Try.prog 23 #[.string X2, .string d] W fun e w' => e = .returned (.string (andB X2 d)) ∧ Below W.heap.size W w' := fun W => And_any X2 d (by omega) (by unfold maxLen; omega) W
  generalize andB X2 d = X4 at *
  have q1 : X1.size ≤ 1000 := by omega
  have q3 : X3.size ≤ 1000 := by omega
  have q4 : X4.size ≤ 1000 := by omega
  have q5 : (X1 ++ X4).size ≤ 2000 := by rw [ByteArray.size_append]; omega
  have HP := Lib.hid hP
  clear z1 z2 z3 z4 hP hk'
  rcases hk with ⟨rfl, rfl, rfl, rfl⟩ | ⟨rfl, rfl, rfl, rfl⟩
  case inl =>
    have k0 := (Blk.new (w.alloc (.cells (flashC a b x y l) 25)) 25 (flashC a b x y l)).alloc (.cells #[.int .i64 0] 31)
    have k1 := Blk.new ((w.alloc (.cells (flashC a b x y l) 25)).alloc (.cells (flashC a b x y l) 25)) 31 #[.int .i64 0]
    have B1 : Below w.heap.size w (((w.alloc (.cells (flashC a b x y l) 25)).alloc (.cells (flashC a b x y l) 25)).alloc (.cells #[.int .i64 0] 31)) := (((Below.refl _ w).alloc (Nat.le_refl _) _).alloc (by simp) _).alloc (by simp; omega) _
    simp only [World.size_alloc] at k0 k1
    go_enter_defers Try.func17, Try.ntmps17
    go_wp2_with (with_reducible refine (hcut _).mono ?_)
    rintro e w1 ⟨rfl, b1⟩
    have c0 := k0.below b1 k0.lt
    have c1 := k1.below b1 k1.lt
    have B2 := bthen B1 b1
    clear k0 k1 B1 b1
    go_wp2_with (with_reducible refine (hAnd _).mono ?_)
    rintro e w2 ⟨rfl, b2⟩
    have d0 := c0.below b2 c0.lt
    have d1 := c1.below b2 c1.lt
    have B3 := bthen B2 b2
    clear c0 c1 B2 b2
    have r0 := d0.cell 0
    have r1 := d0.cell 1
    have f0 := d0.frozen 0
    have f1 := d0.frozen 1
    go_wp2
    have e0 := d0.set 0 (.string (X1 ++ X4 ++ X3))
    have e1 := d1.other ⟨w.heap.size + 1, 0, none⟩ (by simp) (.string (X1 ++ X4 ++ X3))
    have B4 := B3.setCell (p := ⟨w.heap.size + 1, 0, none⟩) (by simp) (.string (X1 ++ X4 ++ X3))
    generalize X1 ++ X4 ++ X3 = Y at *
    generalize w2.setCell { block := w.heap.size + 1, off := 0 } (Value.string Y) = W3 at *
    simp [flashC] at e0
    clear r0 r1 f0 f1 d0 d1 B3
    have r0 := e0.cell 0
    have r1 := e0.cell 1
    have r2 := e0.cell 2
    have r3 := e0.cell 3
    have r4 := e0.cell 4
    have f0 := e0.frozen 0
    have f1 := e0.frozen 1
    have f2 := e0.frozen 2
    have f3 := e0.frozen 3
    have f4 := e0.frozen 4
    have r5 := e1.cell 0
    have f5 := e1.frozen 0
    simp at r0 r1 r2 r3 r4 r5
    go_region
    all_goals
      obtain ⟨g0, g1, B5⟩ := self_stores e0 e1 (by omega) B4 (by omega) (by omega)
      clear r0 r1 r2 r3 r4 f0 f1 f2 f3 f4 r5 f5 e0 e1
      go_wp2
      generalize World.setCell (World.setCell (World.setCell (World.setCell (World.setCell (World.setCell W3 _ _) _ _) _ _) _ _) _ _) _ _ = W6 at *
      have r0 := g0.cell 0
      have r1 := g0.cell 1
      have r2 := g0.cell 2
      have r3 := g0.cell 3
      have r4 := g0.cell 4
      have r5 := g1.cell 0
      simp at r0 r1 r2 r3 r4 r5
      refine leaves_cons (f := 21) (args := #[.pointer (some ⟨w.heap.size + 1 + 1, 0, none⟩)]) (by simp) (by simp [go_sem]) ?_
      refine (caught_idle ⟨w.heap.size + 1 + 1, 0, none⟩ _).mono ?_
      rintro e u' w5 ⟨rfl, rfl, rfl⟩
      simp [Leaves, settle, results, Try.results17, go_sem, r0, r1, r2, r3, r4, r5]
      exact ⟨HP.out.symm, B5.drew⟩
  case inr =>
    have k0 := (Blk.new (w.alloc (.cells (flashC a b x y l) 25)) 25 (flashC a b x y l)).alloc (.cells #[.int .i64 0] 31)
    have k1 := Blk.new ((w.alloc (.cells (flashC a b x y l) 25)).alloc (.cells (flashC a b x y l) 25)) 31 #[.int .i64 0]
    have B1 : Below w.heap.size w (((w.alloc (.cells (flashC a b x y l) 25)).alloc (.cells (flashC a b x y l) 25)).alloc (.cells #[.int .i64 0] 31)) := (((Below.refl _ w).alloc (Nat.le_refl _) _).alloc (by simp) _).alloc (by simp; omega) _
    simp only [World.size_alloc] at k0 k1
    go_enter_defers Try.func17, Try.ntmps17
    go_wp2_with (with_reducible refine (hcut _).mono ?_)
    rintro e w1 ⟨rfl, b1⟩
    have c0 := k0.below b1 k0.lt
    have c1 := k1.below b1 k1.lt
    have B2 := bthen B1 b1
    clear k0 k1 B1 b1
    go_wp2_with (with_reducible refine (hAnd _).mono ?_)
    rintro e w2 ⟨rfl, b2⟩
    have d0 := c0.below b2 c0.lt
    have d1 := c1.below b2 c1.lt
    have B3 := bthen B2 b2
    clear c0 c1 B2 b2
    have r0 := d0.cell 0
    have r1 := d0.cell 1
    have f0 := d0.frozen 0
    have f1 := d0.frozen 1
    go_wp2
    have e0 := d0.set 1 (.string (X1 ++ X4 ++ X3))
    have e1 := d1.other ⟨w.heap.size + 1, 1, none⟩ (by simp) (.string (X1 ++ X4 ++ X3))
    have B4 := B3.setCell (p := ⟨w.heap.size + 1, 1, none⟩) (by simp) (.string (X1 ++ X4 ++ X3))
    generalize X1 ++ X4 ++ X3 = Y at *
    generalize w2.setCell { block := w.heap.size + 1, off := 1 } (Value.string Y) = W3 at *
    simp [flashC] at e0
    clear r0 r1 f0 f1 d0 d1 B3
    have r0 := e0.cell 0
    have r1 := e0.cell 1
    have r2 := e0.cell 2
    have r3 := e0.cell 3
    have r4 := e0.cell 4
    have f0 := e0.frozen 0
    have f1 := e0.frozen 1
    have f2 := e0.frozen 2
    have f3 := e0.frozen 3
    have f4 := e0.frozen 4
    have r5 := e1.cell 0
    have f5 := e1.frozen 0
    simp at r0 r1 r2 r3 r4 r5
    go_region
    all_goals
      obtain ⟨g0, g1, B5⟩ := self_stores e0 e1 (by omega) B4 (by omega) (by omega)
      clear r0 r1 r2 r3 r4 f0 f1 f2 f3 f4 r5 f5 e0 e1
      go_wp2
      generalize World.setCell (World.setCell (World.setCell (World.setCell (World.setCell (World.setCell W3 _ _) _ _) _ _) _ _) _ _) _ _ = W6 at *
      have r0 := g0.cell 0
      have r1 := g0.cell 1
      have r2 := g0.cell 2
      have r3 := g0.cell 3
      have r4 := g0.cell 4
      have r5 := g1.cell 0
      simp at r0 r1 r2 r3 r4 r5
      refine leaves_cons (f := 21) (args := #[.pointer (some ⟨w.heap.size + 1 + 1, 0, none⟩)]) (by simp) (by simp [go_sem]) ?_
      refine (caught_idle ⟨w.heap.size + 1 + 1, 0, none⟩ _).mono ?_
      rintro e u' w5 ⟨rfl, rfl, rfl⟩
      simp [Leaves, settle, results, Try.results17, go_sem, r0, r1, r2, r3, r4, r5]
      exact ⟨HP.out.symm, B5.drew⟩

theorem repeat_full (n : Nat) : Lib.repeatL [255] n = List.replicate n 255 := by
  induction n with
  | zero => rfl
  | succ n ih => rw [Lib.repeatL, ih, List.replicate_succ]; rfl
theorem Repeat_any (n : Nat) (hn : n ≤ 1000) (w : World) : Calls Try.prog 19 #[.string ⟨#[255]⟩, .int .i64 (n : Int)] w fun e w' => e = .returned (.string (fullB n)) ∧ Below w.heap.size w w' := by
  have h := Try.strings_Repeat ⟨#[255]⟩ n w (by omega) (by show 1 * n ≤ _; omega)
  have e : (⟨#[255]⟩ : ByteArray).data.toList = [255] := rfl
  rw [e, repeat_full] at h
  exact h

theorem Erase_arg (a b : ByteArray) (x y l k : Int) (hk : (Lit.int .i64 k).wf = true) (h0 : k ≠ 0) (h1 : k ≠ 1) (w : World) :
    Calls Try.prog 18 #[flashV a b x y l, .int .i64 k] w fun e w' =>
      e = .returned (.tuple #[flashV a b x y l, .int .i64 1]) ∧ Below w.heap.size w w' := by
  go_enter_defers Try.func18, Try.ntmps18
  go_wp2_with (with_reducible refine (cut_arg a b x y l k 0 0 hk h0 h1 _).mono ?_)
  rintro e w1 ⟨rfl, b1⟩
  have k0 := (Blk.new (w.alloc (.cells (flashC a b x y l) 25)) 25 (flashC a b x y l)).alloc (.cells #[.int .i64 0] 31)
  have k1 := Blk.new ((w.alloc (.cells (flashC a b x y l) 25)).alloc (.cells (flashC a b x y l) 25)) 31 #[.int .i64 0]
  have kf := ((Blk.new w 25 (flashC a b x y l)).alloc (.cells (flashC a b x y l) 25)).alloc (.cells #[.int .i64 0] 31)
  have B1 : Below w.heap.size w (((w.alloc (.cells (flashC a b x y l) 25)).alloc (.cells (flashC a b x y l) 25)).alloc (.cells #[.int .i64 0] 31)) := (((Below.refl _ w).alloc (Nat.le_refl _) _).alloc (by simp) _).alloc (by simp; omega) _
  simp only [World.size_alloc] at k0 k1
  have c0 := k0.below b1 k0.lt
  have c1 := k1.below b1 k1.lt
  have cf := kf.below b1 kf.lt
  have B2 := bthen B1 b1
  clear k0 k1 kf B1 b1
  go_wp2
  refine leaves_cons (f := 21) (args := #[.pointer (some ⟨w.heap.size + 1 + 1, 0, none⟩)]) (by simp) (by simp [go_sem]) ?_
  refine (caught_panicking ⟨w.heap.size + 1 + 1, 0, none⟩ 0 1 [] _ (c1.cell 0) (c1.frozen 0)).mono ?_
  rintro e u' w2 ⟨rfl, rfl, rfl⟩
  have k3 := (c1.set 0 (.int .i64 1)).cell 0
  have k4 := c0.other ⟨w.heap.size + 1 + 1, 0, none⟩ (by simp) (.int .i64 1)
  have B3 := B2.setCell (p := ⟨w.heap.size + 1 + 1, 0, none⟩) (by simp; omega) (.int .i64 1)
  generalize World.setCell _ ⟨w.heap.size + 1 + 1, 0, none⟩ (.int .i64 1) = w3 at *
  have r0 := k4.cell 0
  have r1 := k4.cell 1
  have r2 := k4.cell 2
  have r3 := k4.cell 3
  have r4 := k4.cell 4
  simp at k3 r0 r1 r2 r3 r4
  simp [Leaves, settle, results, Try.results18, go_sem, k3, r0, r1, r2, r3, r4]
  exact B3

theorem Erase_worn (a b : ByteArray) (x y l k : Int) (s : ByteArray) (hk : (k = 0 ∧ s = a ∧ l ≤ x) ∨ (k = 1 ∧ s = b ∧ l ≤ y)) (hs : s.size ≤ 1000) (w : World) :
    Calls Try.prog 18 #[flashV a b x y l, .int .i64 k] w fun e w' =>
      e = .returned (.tuple #[flashV a b x y l, .int .i64 4]) ∧ Below w.heap.size w w' := by
  have hk' : (k = 0 ∧ s = a) ∨ (k = 1 ∧ s = b) := by rcases hk with ⟨h1, h2, _⟩ | ⟨h1, h2, _⟩ <;> simp [h1, h2]
  have hcut : ∀ W, Calls Try.prog 22 #[flashV a b x y l, .int .i64 k, .int .i64 0, .int .i64 0] W fun e w' =>
      e = .returned (.tuple #[.string (s.extract 0 0), .string (s.extract 0 (0 + 0)), .string (s.extract (0 + 0) s.size)]) ∧ Below W.heap.size W w' := fun W => cut_ok a b x y l 0 0 k s hk' (by omega) hs W
  generalize s.extract 0 0 = X1 at *
  generalize s.extract (0 + 0) s.size = X3 at *
  rcases hk with ⟨rfl, h2, h3⟩ | ⟨rfl, h2, h3⟩
  all_goals
    clear h2 hk'
    go_enter_defers Try.func18, Try.ntmps18
    go_wp2_with (with_reducible refine (hcut _).mono ?_)
    rintro e w1 ⟨rfl, b1⟩
    have k0 := (Blk.new (w.alloc (.cells (flashC a b x y l) 25)) 25 (flashC a b x y l)).alloc (.cells #[.int .i64 0] 31)
    have k1 := Blk.new ((w.alloc (.cells (flashC a b x y l) 25)).alloc (.cells (flashC a b x y l) 25)) 31 #[.int .i64 0]
    have kf := ((Blk.new w 25 (flashC a b x y l)).alloc (.cells (flashC a b x y l) 25)).alloc (.cells #[.int .i64 0] 31)
    have B1 : Below w.heap.size w (((w.alloc (.cells (flashC a b x y l) 25)).alloc (.cells (flashC a b x y l) 25)).alloc (.cells #[.int .i64 0] 31)) := (((Below.refl _ w).alloc (Nat.le_refl _) _).alloc (by simp) _).alloc (by simp; omega) _
    simp only [World.size_alloc] at k0 k1
    have c0 := k0.below b1 k0.lt
    have c1 := k1.below b1 k1.lt
    have cf := kf.below b1 kf.lt
    have B2 := bthen B1 b1
    clear k0 k1 kf B1 b1
    have q0 := cf.cell 0
    have q1 := cf.cell 1
    have q2 := cf.cell 2
    have q3 := cf.cell 3
    have q4 := cf.cell 4
    simp [flashC] at q0 q1 q2 q3 q4
    go_wp2
    go_quiet (fail)
    replace c0 : Blk (w1.drewN nq) (w.heap.size + 1) 25 (flashC a b x y l) := c0
    replace c1 : Blk (w1.drewN nq) (w.heap.size + 1 + 1) 31 #[.int .i64 0] := c1
    replace cf : Blk (w1.drewN nq) w.heap.size 25 (flashC a b x y l) := cf
    replace B2 : Below w.heap.size w (w1.drewN nq) := bdrew B2 nq
    clear q0 q1 q2 q3 q4
    generalize w1.drewN nq = w3 at *
    have q0 := cf.cell 0
    have q1 := cf.cell 1
    have q2 := cf.cell 2
    have q3 := cf.cell 3
    have q4 := cf.cell 4
    simp [flashC] at q0 q1 q2 q3 q4
    go_wp2
    refine leaves_cons (f := 21) (args := #[.pointer (some ⟨w.heap.size + 1 + 1, 0, none⟩)]) (by simp) (by simp [go_sem]) ?_
    refine (caught_panicking ⟨w.heap.size + 1 + 1, 0, none⟩ 0 4 [] _ (c1.cell 0) (c1.frozen 0)).mono ?_
    rintro e u' w2 ⟨rfl, rfl, rfl⟩
    have k3 := (c1.set 0 (.int .i64 4)).cell 0
    have k4 := c0.other ⟨w.heap.size + 1 + 1, 0, none⟩ (by simp) (.int .i64 4)
    have B3 := B2.setCell (p := ⟨w.heap.size + 1 + 1, 0, none⟩) (by simp; omega) (.int .i64 4)
    generalize World.setCell _ ⟨w.heap.size + 1 + 1, 0, none⟩ (.int .i64 4) = w3 at *
    have r0 := k4.cell 0
    have r1 := k4.cell 1
    have r2 := k4.cell 2
    have r3 := k4.cell 3
    have r4 := k4.cell 4
    simp at k3 r0 r1 r2 r3 r4
    simp [Leaves, settle, results, Try.results18, go_sem, k3, r0, r1, r2, r3, r4]
    exact B3

theorem Erase_ok (a b : ByteArray) (x y l k : Int) (s a' b' : ByteArray) (x' y' : Int) (hk : (k = 0 ∧ a = s ∧ fullB s.size = a' ∧ b = b' ∧ x + 1 = x' ∧ y = y' ∧ x < l) ∨ (k = 1 ∧ b = s ∧ a = a' ∧ fullB s.size = b' ∧ x = x' ∧ y + 1 = y' ∧ y < l))
    (hx : (Lit.int .i64 x).wf = true) (hy : (Lit.int .i64 y).wf = true) (hl : (Lit.int .i64 l).wf = true) (hs : s.size ≤ 1000) (w : World) :
    Calls Try.prog 18 #[flashV a b x y l, .int .i64 k] w fun e w' =>
      e = .returned (.tuple #[flashV a' b' x' y' l, .int .i64 0]) ∧ Below w.heap.size w w' := by
  have hk' : (k = 0 ∧ s = a) ∨ (k = 1 ∧ s = b) := by rcases hk with ⟨h1, h2, _⟩ | ⟨h1, h2, _⟩ <;> simp [h1, h2]
  simp [Lit.wf, IntKind.min, IntKind.max, IntKind.signed, IntKind.bits] at hx hy hl
  have hcut : ∀ W, Calls Try.prog 22 #[flashV a b x y l, .int .i64 k, .int .i64 0, .int .i64 0] W fun e w' =>
      e = .returned (.tuple #[.string (s.extract 0 0), .string (s.extract 0 (0 + 0)), .string (s.extract (0 + 0) s.size)]) ∧ Below W.heap.size W w' := fun W => cut_ok a b x y l 0 0 k s hk' (by omega) hs W
  generalize s.extract 0 0 = X1 at *
  generalize s.extract (0 + 0) s.size = X3 at *
  have hrep : ∀ W, Calls Try.prog 19 #[.string ⟨#[255]⟩, .int .i64 (s.size : Int)] W fun e w' => e = .returned (.string (fullB s.size)) ∧ Below W.heap.size W w' := fun W => Repeat_any s.size hs W
  generalize hF : fullB s.size = F at *
  clear hF hk'
  rcases hk with ⟨rfl, rfl, rfl, rfl, rfl, rfl, h3⟩ | ⟨rfl, rfl, rfl, rfl, rfl, rfl, h3⟩
  · go_enter_defers Try.func18, Try.ntmps18
    go_wp2_with (with_reducible refine (hcut _).mono ?_)
    rintro e w1 ⟨rfl, b1⟩
    have k0 := (Blk.new (w.alloc (.cells (flashC a b x y l) 25)) 25 (flashC a b x y l)).alloc (.cells #[.int .i64 0] 31)
    have k1 := Blk.new ((w.alloc (.cells (flashC a b x y l) 25)).alloc (.cells (flashC a b x y l) 25)) 31 #[.int .i64 0]
    have kf := ((Blk.new w 25 (flashC a b x y l)).alloc (.cells (flashC a b x y l) 25)).alloc (.cells #[.int .i64 0] 31)
    have B1 : Below w.heap.size w (((w.alloc (.cells (flashC a b x y l) 25)).alloc (.cells (flashC a b x y l) 25)).alloc (.cells #[.int .i64 0] 31)) := (((Below.refl _ w).alloc (Nat.le_refl _) _).alloc (by simp) _).alloc (by simp; omega) _
    simp only [World.size_alloc] at k0 k1
    have c0 := k0.below b1 k0.lt
    have c1 := k1.below b1 k1.lt
    have cf := kf.below b1 kf.lt
    have B2 := bthen B1 b1
    clear k0 k1 kf B1 b1
    have q0 := cf.cell 0
    have q1 := cf.cell 1
    have q2 := cf.cell 2
    have q3 := cf.cell 3
    have q4 := cf.cell 4
    simp [flashC] at q0 q1 q2 q3 q4
    go_wp2
    go_quiet (fail)
    replace c0 : Blk (w1.drewN nq) (w.heap.size + 1) 25 (flashC a b x y l) := c0
    replace c1 : Blk (w1.drewN nq) (w.heap.size + 1 + 1) 31 #[.int .i64 0] := c1
    replace cf : Blk (w1.drewN nq) w.heap.size 25 (flashC a b x y l) := cf
    replace B2 : Below w.heap.size w (w1.drewN nq) := bdrew B2 nq
    clear q0 q1 q2 q3 q4
    generalize w1.drewN nq = w3 at *
    have q0 := cf.cell 0
    have q1 := cf.cell 1
    have q2 := cf.cell 2
    have q3 := cf.cell 3
    have q4 := cf.cell 4
    simp [flashC] at q0 q1 q2 q3 q4
    go_wp2_with (with_reducible refine (hrep _).mono ?_)
    rintro e w4 ⟨rfl, b4⟩
    have d0 := c0.below b4 c0.lt
    have d1 := c1.below b4 c1.lt
    have B3 := bthen B2 b4
    clear c0 c1 cf q0 q1 q2 q3 q4 B2 b4
    have r0 := d0.cell 0
    have r1 := d0.cell 1
    have r2 := d0.cell 2
    have r3 := d0.cell 3
    have f0 := d0.frozen 0
    have f1 := d0.frozen 1
    have f2 := d0.frozen 2
    have f3 := d0.frozen 3
    simp [flashC] at r0 r1 r2 r3
    go_wp2
    have e0 := (d0.set 0 (.string F)).set 2 (.int .i64 (x + 1))
    have e1 := (d1.other ⟨w.heap.size + 1, 0, none⟩ (by simp) (.string F)).other ⟨w.heap.size + 1, 2, none⟩ (by simp) (.int .i64 (x + 1))
    have B4 := (B3.setCell (p := ⟨w.heap.size + 1, 0, none⟩) (by simp) (.string F)).setCell (p := ⟨w.heap.size + 1, 2, none⟩) (by simp) (.int .i64 (x + 1))
    generalize (w4.setCell { block := w.heap.size + 1, off := 0 } (Value.string F)).setCell { block := w.heap.size + 1, off := 2 } (.int .i64 (x + 1)) = W3 at *
    simp [flashC] at e0
    clear r0 r1 r2 r3 f0 f1 f2 f3 d0 d1 B3
    have r0 := e0.cell 0
    have r1 := e0.cell 1
    have r2 := e0.cell 2
    have r3 := e0.cell 3
    have r4 := e0.cell 4
    have f0 := e0.frozen 0
    have f1 := e0.frozen 1
    have f2 := e0.frozen 2
    have f3 := e0.frozen 3
    have f4 := e0.frozen 4
    have r5 := e1.cell 0
    have f5 := e1.frozen 0
    simp at r0 r1 r2 r3 r4 r5
    go_region
    all_goals
      obtain ⟨g0, g1, B5⟩ := self_stores e0 e1 (by omega) B4 (by omega) (by omega)
      clear r0 r1 r2 r3 r4 f0 f1 f2 f3 f4 r5 f5 e0 e1
      go_wp2
      generalize World.setCell (World.setCell (World.setCell (World.setCell (World.setCell (World.setCell W3 _ _) _ _) _ _) _ _) _ _) _ _ = W6 at *
      have r0 := g0.cell 0
      have r1 := g0.cell 1
      have r2 := g0.cell 2
      have r3 := g0.cell 3
      have r4 := g0.cell 4
      have r5 := g1.cell 0
      simp at r0 r1 r2 r3 r4 r5
      refine leaves_cons (f := 21) (args := #[.pointer (some ⟨w.heap.size + 1 + 1, 0, none⟩)]) (by simp) (by simp [go_sem]) ?_
      refine (caught_idle ⟨w.heap.size + 1 + 1, 0, none⟩ _).mono ?_
      rintro e u' w5 ⟨rfl, rfl, rfl⟩
      simp [Leaves, settle, results, Try.results18, go_sem, r0, r1, r2, r3, r4, r5]
      exact B5.drew
  · go_enter_defers Try.func18, Try.ntmps18
    go_wp2_with (with_reducible refine (hcut _).mono ?_)
    rintro e w1 ⟨rfl, b1⟩
    have k0 := (Blk.new (w.alloc (.cells (flashC a b x y l) 25)) 25 (flashC a b x y l)).alloc (.cells #[.int .i64 0] 31)
    have k1 := Blk.new ((w.alloc (.cells (flashC a b x y l) 25)).alloc (.cells (flashC a b x y l) 25)) 31 #[.int .i64 0]
    have kf := ((Blk.new w 25 (flashC a b x y l)).alloc (.cells (flashC a b x y l) 25)).alloc (.cells #[.int .i64 0] 31)
    have B1 : Below w.heap.size w (((w.alloc (.cells (flashC a b x y l) 25)).alloc (.cells (flashC a b x y l) 25)).alloc (.cells #[.int .i64 0] 31)) := (((Below.refl _ w).alloc (Nat.le_refl _) _).alloc (by simp) _).alloc (by simp; omega) _
    simp only [World.size_alloc] at k0 k1
    have c0 := k0.below b1 k0.lt
    have c1 := k1.below b1 k1.lt
    have cf := kf.below b1 kf.lt
    have B2 := bthen B1 b1
    clear k0 k1 kf B1 b1
    have q0 := cf.cell 0
    have q1 := cf.cell 1
    have q2 := cf.cell 2
    have q3 := cf.cell 3
    have q4 := cf.cell 4
    simp [flashC] at q0 q1 q2 q3 q4
    go_wp2
    go_quiet (fail)
    replace c0 : Blk (w1.drewN nq) (w.heap.size + 1) 25 (flashC a b x y l) := c0
    replace c1 : Blk (w1.drewN nq) (w.heap.size + 1 + 1) 31 #[.int .i64 0] := c1
    replace cf : Blk (w1.drewN nq) w.heap.size 25 (flashC a b x y l) := cf
    replace B2 : Below w.heap.size w (w1.drewN nq) := bdrew B2 nq
    clear q0 q1 q2 q3 q4
    generalize w1.drewN nq = w3 at *
    have q0 := cf.cell 0
    have q1 := cf.cell 1
    have q2 := cf.cell 2
    have q3 := cf.cell 3
    have q4 := cf.cell 4
    simp [flashC] at q0 q1 q2 q3 q4
    go_wp2_with (with_reducible refine (hrep _).mono ?_)
    rintro e w4 ⟨rfl, b4⟩
    have d0 := c0.below b4 c0.lt
    have d1 := c1.below b4 c1.lt
    have B3 := bthen B2 b4
    clear c0 c1 cf q0 q1 q2 q3 q4 B2 b4
    have r0 := d0.cell 0
    have r1 := d0.cell 1
    have r2 := d0.cell 2
    have r3 := d0.cell 3
    have f0 := d0.frozen 0
    have f1 := d0.frozen 1
    have f2 := d0.frozen 2
    have f3 := d0.frozen 3
    simp [flashC] at r0 r1 r2 r3
    go_wp2
    have e0 := (d0.set 1 (.string F)).set 3 (.int .i64 (y + 1))
    have e1 := (d1.other ⟨w.heap.size + 1, 1, none⟩ (by simp) (.string F)).other ⟨w.heap.size + 1, 3, none⟩ (by simp) (.int .i64 (y + 1))
    have B4 := (B3.setCell (p := ⟨w.heap.size + 1, 1, none⟩) (by simp) (.string F)).setCell (p := ⟨w.heap.size + 1, 3, none⟩) (by simp) (.int .i64 (y + 1))
    generalize (w4.setCell { block := w.heap.size + 1, off := 1 } (Value.string F)).setCell { block := w.heap.size + 1, off := 3 } (.int .i64 (y + 1)) = W3 at *
    simp [flashC] at e0
    clear r0 r1 r2 r3 f0 f1 f2 f3 d0 d1 B3
    have r0 := e0.cell 0
    have r1 := e0.cell 1
    have r2 := e0.cell 2
    have r3 := e0.cell 3
    have r4 := e0.cell 4
    have f0 := e0.frozen 0
    have f1 := e0.frozen 1
    have f2 := e0.frozen 2
    have f3 := e0.frozen 3
    have f4 := e0.frozen 4
    have r5 := e1.cell 0
    have f5 := e1.frozen 0
    simp at r0 r1 r2 r3 r4 r5
    go_region
    all_goals
      obtain ⟨g0, g1, B5⟩ := self_stores e0 e1 (by omega) B4 (by omega) (by omega)
      clear r0 r1 r2 r3 r4 f0 f1 f2 f3 f4 r5 f5 e0 e1
      go_wp2
      generalize World.setCell (World.setCell (World.setCell (World.setCell (World.setCell (World.setCell W3 _ _) _ _) _ _) _ _) _ _) _ _ = W6 at *
      have r0 := g0.cell 0
      have r1 := g0.cell 1
      have r2 := g0.cell 2
      have r3 := g0.cell 3
      have r4 := g0.cell 4
      have r5 := g1.cell 0
      simp at r0 r1 r2 r3 r4 r5
      refine leaves_cons (f := 21) (args := #[.pointer (some ⟨w.heap.size + 1 + 1, 0, none⟩)]) (by simp) (by simp [go_sem]) ?_
      refine (caught_idle ⟨w.heap.size + 1 + 1, 0, none⟩ _).mono ?_
      rintro e u' w5 ⟨rfl, rfl, rfl⟩
      simp [Leaves, settle, results, Try.results18, go_sem, r0, r1, r2, r3, r4, r5]
      exact B5.drew
end Go.Proofs.Ythagnnaemcknfaa
