/- Contracts and plain laws, put together: RefE. -/
import Derived.Test.YtebkeocpojlepaaGreatDoorG10
import Derived.Test.YtebkeocpojlepaaGreatDoorG04
/- dogwatchref16.Delta at the kind 5, and at every kind. -/
namespace Go.Proofs.YtebkeocpojlepaaGreatDoor
open Go.RowKit
set_option linter.unusedVariables false
set_option linter.unusedSimpArgs false

set_option maxRecDepth 100000 in
set_option maxHeartbeats 4000000 in
theorem rDelta5 (s : St) (hs : s.ok) (h16 : 0 ≤ s.iso ∧ s.iso < 16) (c : Cm) (hc : c.ok) (hk : c.kind = 5) (w : World) : Calls Tryz.prog 9 #[stV s, cmV c] w (DPost w (deltaS s c) (deltaE s c)) := by
  have n1 : ¬ c.kind = 1 := by omega
  have n2 : ¬ c.kind = 2 := by omega
  have n3 : ¬ c.kind = 3 := by omega
  have n4 : ¬ c.kind = 4 := by omega
  have e1 : deltaE s c = if c.n < 0 ∨ 3 < c.n then 1 else if hasI s.iso c.n = false ∧ soundI s.iso - 1 < needsI s.mode then 24 else 0 := by unfold deltaE; rw [if_neg n1, if_neg n2, if_neg n3, if_neg n4, if_pos hk]
  have e2 : deltaS s c = if (if c.n < 0 ∨ 3 < c.n then 1 else if hasI s.iso c.n = false ∧ soundI s.iso - 1 < needsI s.mode then 24 else 0 : Int) = 0 then { s with iso := setI s.iso c.n } else s := by unfold deltaS deltaK; rw [e1, if_neg n1, if_neg n2, if_neg n3, if_neg n4, if_pos hk]
  rw [e1, e2]
  clear e1 e2 n1 n2 n3 n4
  have hS := r14Sound s hs
  have hN : ∀ W, Calls Tryz.prog 23 #[.int .i64 s.mode] W fun e w' => e = .returned (.int .i64 (needsI s.mode)) ∧ Below W.heap.size W w' := fun W => (r15Needs s.mode W).mono (by rintro e w' ⟨rfl, rfl⟩; exact ⟨rfl, Below.refl _ _⟩)
  have hso := sound_le s.iso
  by_cases hn : c.n < 0 ∨ 3 < c.n
  · rw [if_pos hn, if_neg (show ¬ (1 : Int) = 0 by decide)]
    obtain ⟨m, ar, ho, la, lo, is⟩ := s
    obtain ⟨ck, cn, ca, co⟩ := c
    simp only at *
    subst hk
    clear hs hc
    rcases hn with hn | hn
    ·
      go_enter Tryz.func9, Tryz.ntmps9
      go_wp2
      exact bodyPost_ret (v := .tuple #[stV ⟨m, ar, ho, la, lo, is⟩, .int .i64 1]) (by simp [results, Tryz.results9, go_sem]) rfl ⟨rfl, (((Below.refl _ w).alloc (Nat.le_refl _) _).alloc (by simp) _).alloc (by simp; omega) _⟩
    · have h2 : ¬ cn < 0 := by omega
      go_enter Tryz.func9, Tryz.ntmps9
      go_wp2
      exact bodyPost_ret (v := .tuple #[stV ⟨m, ar, ho, la, lo, is⟩, .int .i64 1]) (by simp [results, Tryz.results9, go_sem]) rfl ⟨rfl, (((Below.refl _ w).alloc (Nat.le_refl _) _).alloc (by simp) _).alloc (by simp; omega) _⟩
  · rw [if_neg hn]
    have hI := iso_ops s.iso c.n h16.1 h16.2 (by omega) (by omega)
    obtain ⟨m, ar, ho, la, lo, is⟩ := s
    obtain ⟨ck, cn, ca, co⟩ := c
    simp only at *
    subst hk
    clear hs hc
    generalize soundI is = so at *
    generalize needsI m = ne at *
    have wso : IntKind.i64.wrap (so - 1) = so - 1 := IntWalk.i64_in _ (by omega)
    have kF := ((Blk.new w 39 (stC ⟨m, ar, ho, la, lo, is⟩)).alloc (.cells (cmC ⟨5, cn, ca, co⟩) 44)).alloc (.cells zStC 39)
    have kC := (Blk.new (w.alloc (.cells (stC ⟨m, ar, ho, la, lo, is⟩) 39)) 44 (cmC ⟨5, cn, ca, co⟩)).alloc (.cells zStC 39)
    have kZ := Blk.new ((w.alloc (.cells (stC ⟨m, ar, ho, la, lo, is⟩) 39)).alloc (.cells (cmC ⟨5, cn, ca, co⟩) 44)) 39 zStC
    simp only [World.size_alloc] at kC kZ
    have B0 : Below w.heap.size w (((w.alloc (.cells (stC ⟨m, ar, ho, la, lo, is⟩) 39)).alloc (.cells (cmC ⟨5, cn, ca, co⟩) 44)).alloc (.cells zStC 39)) := (((Below.refl _ w).alloc (Nat.le_refl _) _).alloc (by simp) _).alloc (by simp; omega) _
    obtain rfl | rfl | rfl | rfl : cn = 0 ∨ cn = 1 ∨ cn = 2 ∨ cn = 3 := by omega
    ·
      cases hh : hasI is 0
      case true =>
        rw [if_neg (show ¬ ((true : Bool) = false ∧ so - 1 < ne) by simp), if_pos rfl]
        have p1 : bits .and .i64 is 1 = 1 := by rw [show ((1 : Int)) = bitI 0 from rfl, hI.1, hh]; rfl
        have p2 : bits .or .i64 is 1 = setI is 0 := hI.2.1
        clear hI hh
        go_enter Tryz.func9, Tryz.ntmps9
        go_wp2_with fail
        generalize World.alloc (World.alloc (World.alloc w _) _) _ = W0 at *
        have r_0 := kC.cell 0
        have r_1 := kC.cell 1
        have r_2 := kC.cell 2
        have r_3 := kC.cell 3
        simp at r_0 r_1 r_2 r_3
        have u_0 := kF.cell 0
        have u_1 := kF.cell 1
        have u_2 := kF.cell 2
        have u_3 := kF.cell 3
        have u_4 := kF.cell 4
        have u_5 := kF.cell 5
        simp at u_0 u_1 u_2 u_3 u_4 u_5
        have g0 := kF.frozen 0
        have g1 := kF.frozen 1
        have g5 := kF.frozen 5
        have y_0 : ∀ n : CalmW W0.heap.size W0, n.val.cell? ⟨w.heap.size, 0, none⟩ = some (.int .i64 m) := fun n => ((kF.below n.below kF.lt).cell 0).trans (by simp)
        have y_1 : ∀ n : CalmW W0.heap.size W0, n.val.cell? ⟨w.heap.size, 1, none⟩ = some (.bool ar) := fun n => ((kF.below n.below kF.lt).cell 1).trans (by simp)
        have y_2 : ∀ n : CalmW W0.heap.size W0, n.val.cell? ⟨w.heap.size, 2, none⟩ = some (.bool ho) := fun n => ((kF.below n.below kF.lt).cell 2).trans (by simp)
        have y_3 : ∀ n : CalmW W0.heap.size W0, n.val.cell? ⟨w.heap.size, 3, none⟩ = some (.int .i64 la) := fun n => ((kF.below n.below kF.lt).cell 3).trans (by simp)
        have y_4 : ∀ n : CalmW W0.heap.size W0, n.val.cell? ⟨w.heap.size, 4, none⟩ = some (.int .i64 lo) := fun n => ((kF.below n.below kF.lt).cell 4).trans (by simp)
        have y_5 : ∀ n : CalmW W0.heap.size W0, n.val.cell? ⟨w.heap.size, 5, none⟩ = some (.int .i64 is) := fun n => ((kF.below n.below kF.lt).cell 5).trans (by simp)
        (refine wp_region_calm (W0.heap.size) (by kernel_rfl) (by kernel_rfl) ?_; (repeat (go_big_quiet_step (first | (with_reducible refine calm_of (Nat.le_refl _) (hS _)) | (with_reducible refine calm_of (Nat.le_refl _) (hN _))))); refine wpQuiet_nil ?_; intro W2 hw'; obtain ⟨⟨_, hW2⟩, hw''⟩ := hw'; subst hw'')
        clear y_0 y_1 y_2 y_3 y_4 y_5
        clear r_0 r_1 r_2 r_3 u_0 u_1 u_2 u_3 u_4 u_5 g0 g1 g5
        (replace kF := kF.below hW2 kF.lt; replace kC := kC.below hW2 kC.lt; replace kZ := kZ.below hW2 kZ.lt; replace B0 := bthen B0 hW2; have c_0 := kF.cell 0; have c_1 := kF.cell 1; have c_2 := kF.cell 2; have c_3 := kF.cell 3; have c_4 := kF.cell 4; have c_5 := kF.cell 5; simp at c_0 c_1 c_2 c_3 c_4 c_5; have f_0 := kF.frozen 0; have f_1 := kF.frozen 1)
        have f_5 := kF.frozen 5
        replace kZ := kZ.other ⟨w.heap.size, 5, none⟩ (by show w.heap.size + 1 + 1 ≠ w.heap.size; omega) (.int .i64 (setI is 0))
        replace B0 := B0.setCell (p := ⟨w.heap.size, 5, none⟩) (Nat.le_refl _) (.int .i64 (setI is 0))
        go_wp2_with (refine wpList_store_row rfl 39 (.tmp 4) (.tmp 98) rfl (w.heap.size + 1 + 1) (stC ⟨m, ar, ho, la, lo, setI is 0⟩) rfl rfl 39 _ kZ (infoR _) rfl (oneSt _) ?_)
        exact bodyPost_ret (results_two rfl _ _ (w.heap.size + 1 + 1) 39 (stC (⟨m, ar, ho, la, lo, setI is 0⟩ : St)) (0, 0) _ (.int .i64 0) rfl rfl (kZ.row _) Tryz.underlying39 rfl (infoR (⟨m, ar, ho, la, lo, setI is 0⟩ : St))) rfl ⟨rfl, bel_row B0 _ (by omega) _⟩
      case false =>
        by_cases hlt : so - 1 < ne
        · rw [if_pos (show (false : Bool) = false ∧ so - 1 < ne from ⟨rfl, hlt⟩), if_neg (show ¬ (24 : Int) = 0 by decide)]
          have p1 : bits .and .i64 is 1 = 0 := by rw [show ((1 : Int)) = bitI 0 from rfl, hI.1, hh]; rfl
          have p2 : bits .or .i64 is 1 = setI is 0 := hI.2.1
          clear hI hh
          go_enter Tryz.func9, Tryz.ntmps9
          go_wp2_with fail
          generalize World.alloc (World.alloc (World.alloc w _) _) _ = W0 at *
          have r_0 := kC.cell 0
          have r_1 := kC.cell 1
          have r_2 := kC.cell 2
          have r_3 := kC.cell 3
          simp at r_0 r_1 r_2 r_3
          have u_0 := kF.cell 0
          have u_1 := kF.cell 1
          have u_2 := kF.cell 2
          have u_3 := kF.cell 3
          have u_4 := kF.cell 4
          have u_5 := kF.cell 5
          simp at u_0 u_1 u_2 u_3 u_4 u_5
          have g0 := kF.frozen 0
          have g1 := kF.frozen 1
          have g5 := kF.frozen 5
          have y_0 : ∀ n : CalmW W0.heap.size W0, n.val.cell? ⟨w.heap.size, 0, none⟩ = some (.int .i64 m) := fun n => ((kF.below n.below kF.lt).cell 0).trans (by simp)
          have y_1 : ∀ n : CalmW W0.heap.size W0, n.val.cell? ⟨w.heap.size, 1, none⟩ = some (.bool ar) := fun n => ((kF.below n.below kF.lt).cell 1).trans (by simp)
          have y_2 : ∀ n : CalmW W0.heap.size W0, n.val.cell? ⟨w.heap.size, 2, none⟩ = some (.bool ho) := fun n => ((kF.below n.below kF.lt).cell 2).trans (by simp)
          have y_3 : ∀ n : CalmW W0.heap.size W0, n.val.cell? ⟨w.heap.size, 3, none⟩ = some (.int .i64 la) := fun n => ((kF.below n.below kF.lt).cell 3).trans (by simp)
          have y_4 : ∀ n : CalmW W0.heap.size W0, n.val.cell? ⟨w.heap.size, 4, none⟩ = some (.int .i64 lo) := fun n => ((kF.below n.below kF.lt).cell 4).trans (by simp)
          have y_5 : ∀ n : CalmW W0.heap.size W0, n.val.cell? ⟨w.heap.size, 5, none⟩ = some (.int .i64 is) := fun n => ((kF.below n.below kF.lt).cell 5).trans (by simp)
          (refine wp_region_calm (W0.heap.size) (by kernel_rfl) (by kernel_rfl) ?_; (repeat (go_big_quiet_step (first | (with_reducible refine calm_of (Nat.le_refl _) (hS _)) | (with_reducible refine calm_of (Nat.le_refl _) (hN _))))); refine wpQuiet_nil ?_; intro W2 hw'; obtain ⟨⟨_, hW2⟩, hw''⟩ := hw'; subst hw'')
          clear y_0 y_1 y_2 y_3 y_4 y_5
          clear r_0 r_1 r_2 r_3 u_0 u_1 u_2 u_3 u_4 u_5 g0 g1 g5
          (replace kF := kF.below hW2 kF.lt; replace kC := kC.below hW2 kC.lt; replace kZ := kZ.below hW2 kZ.lt; replace B0 := bthen B0 hW2; have c_0 := kF.cell 0; have c_1 := kF.cell 1; have c_2 := kF.cell 2; have c_3 := kF.cell 3; have c_4 := kF.cell 4; have c_5 := kF.cell 5; simp at c_0 c_1 c_2 c_3 c_4 c_5; have f_0 := kF.frozen 0; have f_1 := kF.frozen 1)
          have f_5 := kF.frozen 5
          go_wp2_with (first | (refine wpList_load_row rfl 39 (.tmp 2) rfl w.heap.size rfl 39 (stC ⟨m, ar, ho, la, lo, is⟩) (0, 0) _ kF Tryz.underlying39 rfl (infoR _) ?_) | (refine wpList_store_row rfl 39 (.tmp 4) (.tmp 92) rfl (w.heap.size + 1 + 1) (stC ⟨m, ar, ho, la, lo, is⟩) rfl rfl 39 _ kZ (infoR _) rfl (oneSt _) ?_))
          exact bodyPost_ret (results_two rfl _ _ (w.heap.size + 1 + 1) 39 (stC (⟨m, ar, ho, la, lo, is⟩ : St)) (0, 0) _ (.int .i64 24) rfl rfl (kZ.row _) Tryz.underlying39 rfl (infoR (⟨m, ar, ho, la, lo, is⟩ : St))) rfl ⟨rfl, bel_row B0 _ (by omega) _⟩
        · rw [if_neg (show ¬ ((false : Bool) = false ∧ so - 1 < ne) from fun h => hlt h.2), if_pos rfl]
          have p1 : bits .and .i64 is 1 = 0 := by rw [show ((1 : Int)) = bitI 0 from rfl, hI.1, hh]; rfl
          have p2 : bits .or .i64 is 1 = setI is 0 := hI.2.1
          clear hI hh
          go_enter Tryz.func9, Tryz.ntmps9
          go_wp2_with fail
          generalize World.alloc (World.alloc (World.alloc w _) _) _ = W0 at *
          have r_0 := kC.cell 0
          have r_1 := kC.cell 1
          have r_2 := kC.cell 2
          have r_3 := kC.cell 3
          simp at r_0 r_1 r_2 r_3
          have u_0 := kF.cell 0
          have u_1 := kF.cell 1
          have u_2 := kF.cell 2
          have u_3 := kF.cell 3
          have u_4 := kF.cell 4
          have u_5 := kF.cell 5
          simp at u_0 u_1 u_2 u_3 u_4 u_5
          have g0 := kF.frozen 0
          have g1 := kF.frozen 1
          have g5 := kF.frozen 5
          have y_0 : ∀ n : CalmW W0.heap.size W0, n.val.cell? ⟨w.heap.size, 0, none⟩ = some (.int .i64 m) := fun n => ((kF.below n.below kF.lt).cell 0).trans (by simp)
          have y_1 : ∀ n : CalmW W0.heap.size W0, n.val.cell? ⟨w.heap.size, 1, none⟩ = some (.bool ar) := fun n => ((kF.below n.below kF.lt).cell 1).trans (by simp)
          have y_2 : ∀ n : CalmW W0.heap.size W0, n.val.cell? ⟨w.heap.size, 2, none⟩ = some (.bool ho) := fun n => ((kF.below n.below kF.lt).cell 2).trans (by simp)
          have y_3 : ∀ n : CalmW W0.heap.size W0, n.val.cell? ⟨w.heap.size, 3, none⟩ = some (.int .i64 la) := fun n => ((kF.below n.below kF.lt).cell 3).trans (by simp)
          have y_4 : ∀ n : CalmW W0.heap.size W0, n.val.cell? ⟨w.heap.size, 4, none⟩ = some (.int .i64 lo) := fun n => ((kF.below n.below kF.lt).cell 4).trans (by simp)
          have y_5 : ∀ n : CalmW W0.heap.size W0, n.val.cell? ⟨w.heap.size, 5, none⟩ = some (.int .i64 is) := fun n => ((kF.below n.below kF.lt).cell 5).trans (by simp)
          (refine wp_region_calm (W0.heap.size) (by kernel_rfl) (by kernel_rfl) ?_; (repeat (go_big_quiet_step (first | (with_reducible refine calm_of (Nat.le_refl _) (hS _)) | (with_reducible refine calm_of (Nat.le_refl _) (hN _))))); refine wpQuiet_nil ?_; intro W2 hw'; obtain ⟨⟨_, hW2⟩, hw''⟩ := hw'; subst hw'')
          clear y_0 y_1 y_2 y_3 y_4 y_5
          clear r_0 r_1 r_2 r_3 u_0 u_1 u_2 u_3 u_4 u_5 g0 g1 g5
          (replace kF := kF.below hW2 kF.lt; replace kC := kC.below hW2 kC.lt; replace kZ := kZ.below hW2 kZ.lt; replace B0 := bthen B0 hW2; have c_0 := kF.cell 0; have c_1 := kF.cell 1; have c_2 := kF.cell 2; have c_3 := kF.cell 3; have c_4 := kF.cell 4; have c_5 := kF.cell 5; simp at c_0 c_1 c_2 c_3 c_4 c_5; have f_0 := kF.frozen 0; have f_1 := kF.frozen 1)
          have f_5 := kF.frozen 5
          replace kZ := kZ.other ⟨w.heap.size, 5, none⟩ (by show w.heap.size + 1 + 1 ≠ w.heap.size; omega) (.int .i64 (setI is 0))
          replace B0 := B0.setCell (p := ⟨w.heap.size, 5, none⟩) (Nat.le_refl _) (.int .i64 (setI is 0))
          go_wp2_with (refine wpList_store_row rfl 39 (.tmp 4) (.tmp 98) rfl (w.heap.size + 1 + 1) (stC ⟨m, ar, ho, la, lo, setI is 0⟩) rfl rfl 39 _ kZ (infoR _) rfl (oneSt _) ?_)
          exact bodyPost_ret (results_two rfl _ _ (w.heap.size + 1 + 1) 39 (stC (⟨m, ar, ho, la, lo, setI is 0⟩ : St)) (0, 0) _ (.int .i64 0) rfl rfl (kZ.row _) Tryz.underlying39 rfl (infoR (⟨m, ar, ho, la, lo, setI is 0⟩ : St))) rfl ⟨rfl, bel_row B0 _ (by omega) _⟩
    ·
      cases hh : hasI is 1
      case true =>
        rw [if_neg (show ¬ ((true : Bool) = false ∧ so - 1 < ne) by simp), if_pos rfl]
        have p1 : bits .and .i64 is 2 = 2 := by rw [show ((2 : Int)) = bitI 1 from rfl, hI.1, hh]; rfl
        have p2 : bits .or .i64 is 2 = setI is 1 := hI.2.1
        clear hI hh
        go_enter Tryz.func9, Tryz.ntmps9
        go_wp2_with fail
        generalize World.alloc (World.alloc (World.alloc w _) _) _ = W0 at *
        have r_0 := kC.cell 0
        have r_1 := kC.cell 1
        have r_2 := kC.cell 2
        have r_3 := kC.cell 3
        simp at r_0 r_1 r_2 r_3
        have u_0 := kF.cell 0
        have u_1 := kF.cell 1
        have u_2 := kF.cell 2
        have u_3 := kF.cell 3
        have u_4 := kF.cell 4
        have u_5 := kF.cell 5
        simp at u_0 u_1 u_2 u_3 u_4 u_5
        have g0 := kF.frozen 0
        have g1 := kF.frozen 1
        have g5 := kF.frozen 5
        have y_0 : ∀ n : CalmW W0.heap.size W0, n.val.cell? ⟨w.heap.size, 0, none⟩ = some (.int .i64 m) := fun n => ((kF.below n.below kF.lt).cell 0).trans (by simp)
        have y_1 : ∀ n : CalmW W0.heap.size W0, n.val.cell? ⟨w.heap.size, 1, none⟩ = some (.bool ar) := fun n => ((kF.below n.below kF.lt).cell 1).trans (by simp)
        have y_2 : ∀ n : CalmW W0.heap.size W0, n.val.cell? ⟨w.heap.size, 2, none⟩ = some (.bool ho) := fun n => ((kF.below n.below kF.lt).cell 2).trans (by simp)
        have y_3 : ∀ n : CalmW W0.heap.size W0, n.val.cell? ⟨w.heap.size, 3, none⟩ = some (.int .i64 la) := fun n => ((kF.below n.below kF.lt).cell 3).trans (by simp)
        have y_4 : ∀ n : CalmW W0.heap.size W0, n.val.cell? ⟨w.heap.size, 4, none⟩ = some (.int .i64 lo) := fun n => ((kF.below n.below kF.lt).cell 4).trans (by simp)
        have y_5 : ∀ n : CalmW W0.heap.size W0, n.val.cell? ⟨w.heap.size, 5, none⟩ = some (.int .i64 is) := fun n => ((kF.below n.below kF.lt).cell 5).trans (by simp)
        (refine wp_region_calm (W0.heap.size) (by kernel_rfl) (by kernel_rfl) ?_; (repeat (go_big_quiet_step (first | (with_reducible refine calm_of (Nat.le_refl _) (hS _)) | (with_reducible refine calm_of (Nat.le_refl _) (hN _))))); refine wpQuiet_nil ?_; intro W2 hw'; obtain ⟨⟨_, hW2⟩, hw''⟩ := hw'; subst hw'')
        clear y_0 y_1 y_2 y_3 y_4 y_5
        clear r_0 r_1 r_2 r_3 u_0 u_1 u_2 u_3 u_4 u_5 g0 g1 g5
        (replace kF := kF.below hW2 kF.lt; replace kC := kC.below hW2 kC.lt; replace kZ := kZ.below hW2 kZ.lt; replace B0 := bthen B0 hW2; have c_0 := kF.cell 0; have c_1 := kF.cell 1; have c_2 := kF.cell 2; have c_3 := kF.cell 3; have c_4 := kF.cell 4; have c_5 := kF.cell 5; simp at c_0 c_1 c_2 c_3 c_4 c_5; have f_0 := kF.frozen 0; have f_1 := kF.frozen 1)
        have f_5 := kF.frozen 5
        replace kZ := kZ.other ⟨w.heap.size, 5, none⟩ (by show w.heap.size + 1 + 1 ≠ w.heap.size; omega) (.int .i64 (setI is 1))
        replace B0 := B0.setCell (p := ⟨w.heap.size, 5, none⟩) (Nat.le_refl _) (.int .i64 (setI is 1))
        go_wp2_with (refine wpList_store_row rfl 39 (.tmp 4) (.tmp 98) rfl (w.heap.size + 1 + 1) (stC ⟨m, ar, ho, la, lo, setI is 1⟩) rfl rfl 39 _ kZ (infoR _) rfl (oneSt _) ?_)
        exact bodyPost_ret (results_two rfl _ _ (w.heap.size + 1 + 1) 39 (stC (⟨m, ar, ho, la, lo, setI is 1⟩ : St)) (0, 0) _ (.int .i64 0) rfl rfl (kZ.row _) Tryz.underlying39 rfl (infoR (⟨m, ar, ho, la, lo, setI is 1⟩ : St))) rfl ⟨rfl, bel_row B0 _ (by omega) _⟩
      case false =>
        by_cases hlt : so - 1 < ne
        · rw [if_pos (show (false : Bool) = false ∧ so - 1 < ne from ⟨rfl, hlt⟩), if_neg (show ¬ (24 : Int) = 0 by decide)]
          have p1 : bits .and .i64 is 2 = 0 := by rw [show ((2 : Int)) = bitI 1 from rfl, hI.1, hh]; rfl
          have p2 : bits .or .i64 is 2 = setI is 1 := hI.2.1
          clear hI hh
          go_enter Tryz.func9, Tryz.ntmps9
          go_wp2_with fail
          generalize World.alloc (World.alloc (World.alloc w _) _) _ = W0 at *
          have r_0 := kC.cell 0
          have r_1 := kC.cell 1
          have r_2 := kC.cell 2
          have r_3 := kC.cell 3
          simp at r_0 r_1 r_2 r_3
          have u_0 := kF.cell 0
          have u_1 := kF.cell 1
          have u_2 := kF.cell 2
          have u_3 := kF.cell 3
          have u_4 := kF.cell 4
          have u_5 := kF.cell 5
          simp at u_0 u_1 u_2 u_3 u_4 u_5
          have g0 := kF.frozen 0
          have g1 := kF.frozen 1
          have g5 := kF.frozen 5
          have y_0 : ∀ n : CalmW W0.heap.size W0, n.val.cell? ⟨w.heap.size, 0, none⟩ = some (.int .i64 m) := fun n => ((kF.below n.below kF.lt).cell 0).trans (by simp)
          have y_1 : ∀ n : CalmW W0.heap.size W0, n.val.cell? ⟨w.heap.size, 1, none⟩ = some (.bool ar) := fun n => ((kF.below n.below kF.lt).cell 1).trans (by simp)
          have y_2 : ∀ n : CalmW W0.heap.size W0, n.val.cell? ⟨w.heap.size, 2, none⟩ = some (.bool ho) := fun n => ((kF.below n.below kF.lt).cell 2).trans (by simp)
          have y_3 : ∀ n : CalmW W0.heap.size W0, n.val.cell? ⟨w.heap.size, 3, none⟩ = some (.int .i64 la) := fun n => ((kF.below n.below kF.lt).cell 3).trans (by simp)
          have y_4 : ∀ n : CalmW W0.heap.size W0, n.val.cell? ⟨w.heap.size, 4, none⟩ = some (.int .i64 lo) := fun n => ((kF.below n.below kF.lt).cell 4).trans (by simp)
          have y_5 : ∀ n : CalmW W0.heap.size W0, n.val.cell? ⟨w.heap.size, 5, none⟩ = some (.int .i64 is) := fun n => ((kF.below n.below kF.lt).cell 5).trans (by simp)
          (refine wp_region_calm (W0.heap.size) (by kernel_rfl) (by kernel_rfl) ?_; (repeat (go_big_quiet_step (first | (with_reducible refine calm_of (Nat.le_refl _) (hS _)) | (with_reducible refine calm_of (Nat.le_refl _) (hN _))))); refine wpQuiet_nil ?_; intro W2 hw'; obtain ⟨⟨_, hW2⟩, hw''⟩ := hw'; subst hw'')
          clear y_0 y_1 y_2 y_3 y_4 y_5
          clear r_0 r_1 r_2 r_3 u_0 u_1 u_2 u_3 u_4 u_5 g0 g1 g5
          (replace kF := kF.below hW2 kF.lt; replace kC := kC.below hW2 kC.lt; replace kZ := kZ.below hW2 kZ.lt; replace B0 := bthen B0 hW2; have c_0 := kF.cell 0; have c_1 := kF.cell 1; have c_2 := kF.cell 2; have c_3 := kF.cell 3; have c_4 := kF.cell 4; have c_5 := kF.cell 5; simp at c_0 c_1 c_2 c_3 c_4 c_5; have f_0 := kF.frozen 0; have f_1 := kF.frozen 1)
          have f_5 := kF.frozen 5
          go_wp2_with (first | (refine wpList_load_row rfl 39 (.tmp 2) rfl w.heap.size rfl 39 (stC ⟨m, ar, ho, la, lo, is⟩) (0, 0) _ kF Tryz.underlying39 rfl (infoR _) ?_) | (refine wpList_store_row rfl 39 (.tmp 4) (.tmp 92) rfl (w.heap.size + 1 + 1) (stC ⟨m, ar, ho, la, lo, is⟩) rfl rfl 39 _ kZ (infoR _) rfl (oneSt _) ?_))
          exact bodyPost_ret (results_two rfl _ _ (w.heap.size + 1 + 1) 39 (stC (⟨m, ar, ho, la, lo, is⟩ : St)) (0, 0) _ (.int .i64 24) rfl rfl (kZ.row _) Tryz.underlying39 rfl (infoR (⟨m, ar, ho, la, lo, is⟩ : St))) rfl ⟨rfl, bel_row B0 _ (by omega) _⟩
        · rw [if_neg (show ¬ ((false : Bool) = false ∧ so - 1 < ne) from fun h => hlt h.2), if_pos rfl]
          have p1 : bits .and .i64 is 2 = 0 := by rw [show ((2 : Int)) = bitI 1 from rfl, hI.1, hh]; rfl
          have p2 : bits .or .i64 is 2 = setI is 1 := hI.2.1
          clear hI hh
          go_enter Tryz.func9, Tryz.ntmps9
          go_wp2_with fail
          generalize World.alloc (World.alloc (World.alloc w _) _) _ = W0 at *
          have r_0 := kC.cell 0
          have r_1 := kC.cell 1
          have r_2 := kC.cell 2
          have r_3 := kC.cell 3
          simp at r_0 r_1 r_2 r_3
          have u_0 := kF.cell 0
          have u_1 := kF.cell 1
          have u_2 := kF.cell 2
          have u_3 := kF.cell 3
          have u_4 := kF.cell 4
          have u_5 := kF.cell 5
          simp at u_0 u_1 u_2 u_3 u_4 u_5
          have g0 := kF.frozen 0
          have g1 := kF.frozen 1
          have g5 := kF.frozen 5
          have y_0 : ∀ n : CalmW W0.heap.size W0, n.val.cell? ⟨w.heap.size, 0, none⟩ = some (.int .i64 m) := fun n => ((kF.below n.below kF.lt).cell 0).trans (by simp)
          have y_1 : ∀ n : CalmW W0.heap.size W0, n.val.cell? ⟨w.heap.size, 1, none⟩ = some (.bool ar) := fun n => ((kF.below n.below kF.lt).cell 1).trans (by simp)
          have y_2 : ∀ n : CalmW W0.heap.size W0, n.val.cell? ⟨w.heap.size, 2, none⟩ = some (.bool ho) := fun n => ((kF.below n.below kF.lt).cell 2).trans (by simp)
          have y_3 : ∀ n : CalmW W0.heap.size W0, n.val.cell? ⟨w.heap.size, 3, none⟩ = some (.int .i64 la) := fun n => ((kF.below n.below kF.lt).cell 3).trans (by simp)
          have y_4 : ∀ n : CalmW W0.heap.size W0, n.val.cell? ⟨w.heap.size, 4, none⟩ = some (.int .i64 lo) := fun n => ((kF.below n.below kF.lt).cell 4).trans (by simp)
          have y_5 : ∀ n : CalmW W0.heap.size W0, n.val.cell? ⟨w.heap.size, 5, none⟩ = some (.int .i64 is) := fun n => ((kF.below n.below kF.lt).cell 5).trans (by simp)
          (refine wp_region_calm (W0.heap.size) (by kernel_rfl) (by kernel_rfl) ?_; (repeat (go_big_quiet_step (first | (with_reducible refine calm_of (Nat.le_refl _) (hS _)) | (with_reducible refine calm_of (Nat.le_refl _) (hN _))))); refine wpQuiet_nil ?_; intro W2 hw'; obtain ⟨⟨_, hW2⟩, hw''⟩ := hw'; subst hw'')
          clear y_0 y_1 y_2 y_3 y_4 y_5
          clear r_0 r_1 r_2 r_3 u_0 u_1 u_2 u_3 u_4 u_5 g0 g1 g5
          (replace kF := kF.below hW2 kF.lt; replace kC := kC.below hW2 kC.lt; replace kZ := kZ.below hW2 kZ.lt; replace B0 := bthen B0 hW2; have c_0 := kF.cell 0; have c_1 := kF.cell 1; have c_2 := kF.cell 2; have c_3 := kF.cell 3; have c_4 := kF.cell 4; have c_5 := kF.cell 5; simp at c_0 c_1 c_2 c_3 c_4 c_5; have f_0 := kF.frozen 0; have f_1 := kF.frozen 1)
          have f_5 := kF.frozen 5
          replace kZ := kZ.other ⟨w.heap.size, 5, none⟩ (by show w.heap.size + 1 + 1 ≠ w.heap.size; omega) (.int .i64 (setI is 1))
          replace B0 := B0.setCell (p := ⟨w.heap.size, 5, none⟩) (Nat.le_refl _) (.int .i64 (setI is 1))
          go_wp2_with (refine wpList_store_row rfl 39 (.tmp 4) (.tmp 98) rfl (w.heap.size + 1 + 1) (stC ⟨m, ar, ho, la, lo, setI is 1⟩) rfl rfl 39 _ kZ (infoR _) rfl (oneSt _) ?_)
          exact bodyPost_ret (results_two rfl _ _ (w.heap.size + 1 + 1) 39 (stC (⟨m, ar, ho, la, lo, setI is 1⟩ : St)) (0, 0) _ (.int .i64 0) rfl rfl (kZ.row _) Tryz.underlying39 rfl (infoR (⟨m, ar, ho, la, lo, setI is 1⟩ : St))) rfl ⟨rfl, bel_row B0 _ (by omega) _⟩
    ·
      cases hh : hasI is 2
      case true =>
        rw [if_neg (show ¬ ((true : Bool) = false ∧ so - 1 < ne) by simp), if_pos rfl]
        have p1 : bits .and .i64 is 4 = 4 := by rw [show ((4 : Int)) = bitI 2 from rfl, hI.1, hh]; rfl
        have p2 : bits .or .i64 is 4 = setI is 2 := hI.2.1
        clear hI hh
        go_enter Tryz.func9, Tryz.ntmps9
        go_wp2_with fail
        generalize World.alloc (World.alloc (World.alloc w _) _) _ = W0 at *
        have r_0 := kC.cell 0
        have r_1 := kC.cell 1
        have r_2 := kC.cell 2
        have r_3 := kC.cell 3
        simp at r_0 r_1 r_2 r_3
        have u_0 := kF.cell 0
        have u_1 := kF.cell 1
        have u_2 := kF.cell 2
        have u_3 := kF.cell 3
        have u_4 := kF.cell 4
        have u_5 := kF.cell 5
        simp at u_0 u_1 u_2 u_3 u_4 u_5
        have g0 := kF.frozen 0
        have g1 := kF.frozen 1
        have g5 := kF.frozen 5
        have y_0 : ∀ n : CalmW W0.heap.size W0, n.val.cell? ⟨w.heap.size, 0, none⟩ = some (.int .i64 m) := fun n => ((kF.below n.below kF.lt).cell 0).trans (by simp)
        have y_1 : ∀ n : CalmW W0.heap.size W0, n.val.cell? ⟨w.heap.size, 1, none⟩ = some (.bool ar) := fun n => ((kF.below n.below kF.lt).cell 1).trans (by simp)
        have y_2 : ∀ n : CalmW W0.heap.size W0, n.val.cell? ⟨w.heap.size, 2, none⟩ = some (.bool ho) := fun n => ((kF.below n.below kF.lt).cell 2).trans (by simp)
        have y_3 : ∀ n : CalmW W0.heap.size W0, n.val.cell? ⟨w.heap.size, 3, none⟩ = some (.int .i64 la) := fun n => ((kF.below n.below kF.lt).cell 3).trans (by simp)
        have y_4 : ∀ n : CalmW W0.heap.size W0, n.val.cell? ⟨w.heap.size, 4, none⟩ = some (.int .i64 lo) := fun n => ((kF.below n.below kF.lt).cell 4).trans (by simp)
        have y_5 : ∀ n : CalmW W0.heap.size W0, n.val.cell? ⟨w.heap.size, 5, none⟩ = some (.int .i64 is) := fun n => ((kF.below n.below kF.lt).cell 5).trans (by simp)
        (refine wp_region_calm (W0.heap.size) (by kernel_rfl) (by kernel_rfl) ?_; (repeat (go_big_quiet_step (first | (with_reducible refine calm_of (Nat.le_refl _) (hS _)) | (with_reducible refine calm_of (Nat.le_refl _) (hN _))))); refine wpQuiet_nil ?_; intro W2 hw'; obtain ⟨⟨_, hW2⟩, hw''⟩ := hw'; subst hw'')
        clear y_0 y_1 y_2 y_3 y_4 y_5
        clear r_0 r_1 r_2 r_3 u_0 u_1 u_2 u_3 u_4 u_5 g0 g1 g5
        (replace kF := kF.below hW2 kF.lt; replace kC := kC.below hW2 kC.lt; replace kZ := kZ.below hW2 kZ.lt; replace B0 := bthen B0 hW2; have c_0 := kF.cell 0; have c_1 := kF.cell 1; have c_2 := kF.cell 2; have c_3 := kF.cell 3; have c_4 := kF.cell 4; have c_5 := kF.cell 5; simp at c_0 c_1 c_2 c_3 c_4 c_5; have f_0 := kF.frozen 0; have f_1 := kF.frozen 1)
        have f_5 := kF.frozen 5
        replace kZ := kZ.other ⟨w.heap.size, 5, none⟩ (by show w.heap.size + 1 + 1 ≠ w.heap.size; omega) (.int .i64 (setI is 2))
        replace B0 := B0.setCell (p := ⟨w.heap.size, 5, none⟩) (Nat.le_refl _) (.int .i64 (setI is 2))
        go_wp2_with (refine wpList_store_row rfl 39 (.tmp 4) (.tmp 98) rfl (w.heap.size + 1 + 1) (stC ⟨m, ar, ho, la, lo, setI is 2⟩) rfl rfl 39 _ kZ (infoR _) rfl (oneSt _) ?_)
        exact bodyPost_ret (results_two rfl _ _ (w.heap.size + 1 + 1) 39 (stC (⟨m, ar, ho, la, lo, setI is 2⟩ : St)) (0, 0) _ (.int .i64 0) rfl rfl (kZ.row _) Tryz.underlying39 rfl (infoR (⟨m, ar, ho, la, lo, setI is 2⟩ : St))) rfl ⟨rfl, bel_row B0 _ (by omega) _⟩
      case false =>
        by_cases hlt : so - 1 < ne
        · rw [if_pos (show (false : Bool) = false ∧ so - 1 < ne from ⟨rfl, hlt⟩), if_neg (show ¬ (24 : Int) = 0 by decide)]
          have p1 : bits .and .i64 is 4 = 0 := by rw [show ((4 : Int)) = bitI 2 from rfl, hI.1, hh]; rfl
          have p2 : bits .or .i64 is 4 = setI is 2 := hI.2.1
          clear hI hh
          go_enter Tryz.func9, Tryz.ntmps9
          go_wp2_with fail
          generalize World.alloc (World.alloc (World.alloc w _) _) _ = W0 at *
          have r_0 := kC.cell 0
          have r_1 := kC.cell 1
          have r_2 := kC.cell 2
          have r_3 := kC.cell 3
          simp at r_0 r_1 r_2 r_3
          have u_0 := kF.cell 0
          have u_1 := kF.cell 1
          have u_2 := kF.cell 2
          have u_3 := kF.cell 3
          have u_4 := kF.cell 4
          have u_5 := kF.cell 5
          simp at u_0 u_1 u_2 u_3 u_4 u_5
          have g0 := kF.frozen 0
          have g1 := kF.frozen 1
          have g5 := kF.frozen 5
          have y_0 : ∀ n : CalmW W0.heap.size W0, n.val.cell? ⟨w.heap.size, 0, none⟩ = some (.int .i64 m) := fun n => ((kF.below n.below kF.lt).cell 0).trans (by simp)
          have y_1 : ∀ n : CalmW W0.heap.size W0, n.val.cell? ⟨w.heap.size, 1, none⟩ = some (.bool ar) := fun n => ((kF.below n.below kF.lt).cell 1).trans (by simp)
          have y_2 : ∀ n : CalmW W0.heap.size W0, n.val.cell? ⟨w.heap.size, 2, none⟩ = some (.bool ho) := fun n => ((kF.below n.below kF.lt).cell 2).trans (by simp)
          have y_3 : ∀ n : CalmW W0.heap.size W0, n.val.cell? ⟨w.heap.size, 3, none⟩ = some (.int .i64 la) := fun n => ((kF.below n.below kF.lt).cell 3).trans (by simp)
          have y_4 : ∀ n : CalmW W0.heap.size W0, n.val.cell? ⟨w.heap.size, 4, none⟩ = some (.int .i64 lo) := fun n => ((kF.below n.below kF.lt).cell 4).trans (by simp)
          have y_5 : ∀ n : CalmW W0.heap.size W0, n.val.cell? ⟨w.heap.size, 5, none⟩ = some (.int .i64 is) := fun n => ((kF.below n.below kF.lt).cell 5).trans (by simp)
          (refine wp_region_calm (W0.heap.size) (by kernel_rfl) (by kernel_rfl) ?_; (repeat (go_big_quiet_step (first | (with_reducible refine calm_of (Nat.le_refl _) (hS _)) | (with_reducible refine calm_of (Nat.le_refl _) (hN _))))); refine wpQuiet_nil ?_; intro W2 hw'; obtain ⟨⟨_, hW2⟩, hw''⟩ := hw'; subst hw'')
          clear y_0 y_1 y_2 y_3 y_4 y_5
          clear r_0 r_1 r_2 r_3 u_0 u_1 u_2 u_3 u_4 u_5 g0 g1 g5
          (replace kF := kF.below hW2 kF.lt; replace kC := kC.below hW2 kC.lt; replace kZ := kZ.below hW2 kZ.lt; replace B0 := bthen B0 hW2; have c_0 := kF.cell 0; have c_1 := kF.cell 1; have c_2 := kF.cell 2; have c_3 := kF.cell 3; have c_4 := kF.cell 4; have c_5 := kF.cell 5; simp at c_0 c_1 c_2 c_3 c_4 c_5; have f_0 := kF.frozen 0; have f_1 := kF.frozen 1)
          have f_5 := kF.frozen 5
          go_wp2_with (first | (refine wpList_load_row rfl 39 (.tmp 2) rfl w.heap.size rfl 39 (stC ⟨m, ar, ho, la, lo, is⟩) (0, 0) _ kF Tryz.underlying39 rfl (infoR _) ?_) | (refine wpList_store_row rfl 39 (.tmp 4) (.tmp 92) rfl (w.heap.size + 1 + 1) (stC ⟨m, ar, ho, la, lo, is⟩) rfl rfl 39 _ kZ (infoR _) rfl (oneSt _) ?_))
          exact bodyPost_ret (results_two rfl _ _ (w.heap.size + 1 + 1) 39 (stC (⟨m, ar, ho, la, lo, is⟩ : St)) (0, 0) _ (.int .i64 24) rfl rfl (kZ.row _) Tryz.underlying39 rfl (infoR (⟨m, ar, ho, la, lo, is⟩ : St))) rfl ⟨rfl, bel_row B0 _ (by omega) _⟩
        · rw [if_neg (show ¬ ((false : Bool) = false ∧ so - 1 < ne) from fun h => hlt h.2), if_pos rfl]
          have p1 : bits .and .i64 is 4 = 0 := by rw [show ((4 : Int)) = bitI 2 from rfl, hI.1, hh]; rfl
          have p2 : bits .or .i64 is 4 = setI is 2 := hI.2.1
          clear hI hh
          go_enter Tryz.func9, Tryz.ntmps9
          go_wp2_with fail
          generalize World.alloc (World.alloc (World.alloc w _) _) _ = W0 at *
          have r_0 := kC.cell 0
          have r_1 := kC.cell 1
          have r_2 := kC.cell 2
          have r_3 := kC.cell 3
          simp at r_0 r_1 r_2 r_3
          have u_0 := kF.cell 0
          have u_1 := kF.cell 1
          have u_2 := kF.cell 2
          have u_3 := kF.cell 3
          have u_4 := kF.cell 4
          have u_5 := kF.cell 5
          simp at u_0 u_1 u_2 u_3 u_4 u_5
          have g0 := kF.frozen 0
          have g1 := kF.frozen 1
          have g5 := kF.frozen 5
          have y_0 : ∀ n : CalmW W0.heap.size W0, n.val.cell? ⟨w.heap.size, 0, none⟩ = some (.int .i64 m) := fun n => ((kF.below n.below kF.lt).cell 0).trans (by simp)
          have y_1 : ∀ n : CalmW W0.heap.size W0, n.val.cell? ⟨w.heap.size, 1, none⟩ = some (.bool ar) := fun n => ((kF.below n.below kF.lt).cell 1).trans (by simp)
          have y_2 : ∀ n : CalmW W0.heap.size W0, n.val.cell? ⟨w.heap.size, 2, none⟩ = some (.bool ho) := fun n => ((kF.below n.below kF.lt).cell 2).trans (by simp)
          have y_3 : ∀ n : CalmW W0.heap.size W0, n.val.cell? ⟨w.heap.size, 3, none⟩ = some (.int .i64 la) := fun n => ((kF.below n.below kF.lt).cell 3).trans (by simp)
          have y_4 : ∀ n : CalmW W0.heap.size W0, n.val.cell? ⟨w.heap.size, 4, none⟩ = some (.int .i64 lo) := fun n => ((kF.below n.below kF.lt).cell 4).trans (by simp)
          have y_5 : ∀ n : CalmW W0.heap.size W0, n.val.cell? ⟨w.heap.size, 5, none⟩ = some (.int .i64 is) := fun n => ((kF.below n.below kF.lt).cell 5).trans (by simp)
          (refine wp_region_calm (W0.heap.size) (by kernel_rfl) (by kernel_rfl) ?_; (repeat (go_big_quiet_step (first | (with_reducible refine calm_of (Nat.le_refl _) (hS _)) | (with_reducible refine calm_of (Nat.le_refl _) (hN _))))); refine wpQuiet_nil ?_; intro W2 hw'; obtain ⟨⟨_, hW2⟩, hw''⟩ := hw'; subst hw'')
          clear y_0 y_1 y_2 y_3 y_4 y_5
          clear r_0 r_1 r_2 r_3 u_0 u_1 u_2 u_3 u_4 u_5 g0 g1 g5
          (replace kF := kF.below hW2 kF.lt; replace kC := kC.below hW2 kC.lt; replace kZ := kZ.below hW2 kZ.lt; replace B0 := bthen B0 hW2; have c_0 := kF.cell 0; have c_1 := kF.cell 1; have c_2 := kF.cell 2; have c_3 := kF.cell 3; have c_4 := kF.cell 4; have c_5 := kF.cell 5; simp at c_0 c_1 c_2 c_3 c_4 c_5; have f_0 := kF.frozen 0; have f_1 := kF.frozen 1)
          have f_5 := kF.frozen 5
          replace kZ := kZ.other ⟨w.heap.size, 5, none⟩ (by show w.heap.size + 1 + 1 ≠ w.heap.size; omega) (.int .i64 (setI is 2))
          replace B0 := B0.setCell (p := ⟨w.heap.size, 5, none⟩) (Nat.le_refl _) (.int .i64 (setI is 2))
          go_wp2_with (refine wpList_store_row rfl 39 (.tmp 4) (.tmp 98) rfl (w.heap.size + 1 + 1) (stC ⟨m, ar, ho, la, lo, setI is 2⟩) rfl rfl 39 _ kZ (infoR _) rfl (oneSt _) ?_)
          exact bodyPost_ret (results_two rfl _ _ (w.heap.size + 1 + 1) 39 (stC (⟨m, ar, ho, la, lo, setI is 2⟩ : St)) (0, 0) _ (.int .i64 0) rfl rfl (kZ.row _) Tryz.underlying39 rfl (infoR (⟨m, ar, ho, la, lo, setI is 2⟩ : St))) rfl ⟨rfl, bel_row B0 _ (by omega) _⟩
    ·
      cases hh : hasI is 3
      case true =>
        rw [if_neg (show ¬ ((true : Bool) = false ∧ so - 1 < ne) by simp), if_pos rfl]
        have p1 : bits .and .i64 is 8 = 8 := by rw [show ((8 : Int)) = bitI 3 from rfl, hI.1, hh]; rfl
        have p2 : bits .or .i64 is 8 = setI is 3 := hI.2.1
        clear hI hh
        go_enter Tryz.func9, Tryz.ntmps9
        go_wp2_with fail
        generalize World.alloc (World.alloc (World.alloc w _) _) _ = W0 at *
        have r_0 := kC.cell 0
        have r_1 := kC.cell 1
        have r_2 := kC.cell 2
        have r_3 := kC.cell 3
        simp at r_0 r_1 r_2 r_3
        have u_0 := kF.cell 0
        have u_1 := kF.cell 1
        have u_2 := kF.cell 2
        have u_3 := kF.cell 3
        have u_4 := kF.cell 4
        have u_5 := kF.cell 5
        simp at u_0 u_1 u_2 u_3 u_4 u_5
        have g0 := kF.frozen 0
        have g1 := kF.frozen 1
        have g5 := kF.frozen 5
        have y_0 : ∀ n : CalmW W0.heap.size W0, n.val.cell? ⟨w.heap.size, 0, none⟩ = some (.int .i64 m) := fun n => ((kF.below n.below kF.lt).cell 0).trans (by simp)
        have y_1 : ∀ n : CalmW W0.heap.size W0, n.val.cell? ⟨w.heap.size, 1, none⟩ = some (.bool ar) := fun n => ((kF.below n.below kF.lt).cell 1).trans (by simp)
        have y_2 : ∀ n : CalmW W0.heap.size W0, n.val.cell? ⟨w.heap.size, 2, none⟩ = some (.bool ho) := fun n => ((kF.below n.below kF.lt).cell 2).trans (by simp)
        have y_3 : ∀ n : CalmW W0.heap.size W0, n.val.cell? ⟨w.heap.size, 3, none⟩ = some (.int .i64 la) := fun n => ((kF.below n.below kF.lt).cell 3).trans (by simp)
        have y_4 : ∀ n : CalmW W0.heap.size W0, n.val.cell? ⟨w.heap.size, 4, none⟩ = some (.int .i64 lo) := fun n => ((kF.below n.below kF.lt).cell 4).trans (by simp)
        have y_5 : ∀ n : CalmW W0.heap.size W0, n.val.cell? ⟨w.heap.size, 5, none⟩ = some (.int .i64 is) := fun n => ((kF.below n.below kF.lt).cell 5).trans (by simp)
        (refine wp_region_calm (W0.heap.size) (by kernel_rfl) (by kernel_rfl) ?_; (repeat (go_big_quiet_step (first | (with_reducible refine calm_of (Nat.le_refl _) (hS _)) | (with_reducible refine calm_of (Nat.le_refl _) (hN _))))); refine wpQuiet_nil ?_; intro W2 hw'; obtain ⟨⟨_, hW2⟩, hw''⟩ := hw'; subst hw'')
        clear y_0 y_1 y_2 y_3 y_4 y_5
        clear r_0 r_1 r_2 r_3 u_0 u_1 u_2 u_3 u_4 u_5 g0 g1 g5
        (replace kF := kF.below hW2 kF.lt; replace kC := kC.below hW2 kC.lt; replace kZ := kZ.below hW2 kZ.lt; replace B0 := bthen B0 hW2; have c_0 := kF.cell 0; have c_1 := kF.cell 1; have c_2 := kF.cell 2; have c_3 := kF.cell 3; have c_4 := kF.cell 4; have c_5 := kF.cell 5; simp at c_0 c_1 c_2 c_3 c_4 c_5; have f_0 := kF.frozen 0; have f_1 := kF.frozen 1)
        have f_5 := kF.frozen 5
        replace kZ := kZ.other ⟨w.heap.size, 5, none⟩ (by show w.heap.size + 1 + 1 ≠ w.heap.size; omega) (.int .i64 (setI is 3))
        replace B0 := B0.setCell (p := ⟨w.heap.size, 5, none⟩) (Nat.le_refl _) (.int .i64 (setI is 3))
        go_wp2_with (refine wpList_store_row rfl 39 (.tmp 4) (.tmp 98) rfl (w.heap.size + 1 + 1) (stC ⟨m, ar, ho, la, lo, setI is 3⟩) rfl rfl 39 _ kZ (infoR _) rfl (oneSt _) ?_)
        exact bodyPost_ret (results_two rfl _ _ (w.heap.size + 1 + 1) 39 (stC (⟨m, ar, ho, la, lo, setI is 3⟩ : St)) (0, 0) _ (.int .i64 0) rfl rfl (kZ.row _) Tryz.underlying39 rfl (infoR (⟨m, ar, ho, la, lo, setI is 3⟩ : St))) rfl ⟨rfl, bel_row B0 _ (by omega) _⟩
      case false =>
        by_cases hlt : so - 1 < ne
        · rw [if_pos (show (false : Bool) = false ∧ so - 1 < ne from ⟨rfl, hlt⟩), if_neg (show ¬ (24 : Int) = 0 by decide)]
          have p1 : bits .and .i64 is 8 = 0 := by rw [show ((8 : Int)) = bitI 3 from rfl, hI.1, hh]; rfl
          have p2 : bits .or .i64 is 8 = setI is 3 := hI.2.1
          clear hI hh
          go_enter Tryz.func9, Tryz.ntmps9
          go_wp2_with fail
          generalize World.alloc (World.alloc (World.alloc w _) _) _ = W0 at *
          have r_0 := kC.cell 0
          have r_1 := kC.cell 1
          have r_2 := kC.cell 2
          have r_3 := kC.cell 3
          simp at r_0 r_1 r_2 r_3
          have u_0 := kF.cell 0
          have u_1 := kF.cell 1
          have u_2 := kF.cell 2
          have u_3 := kF.cell 3
          have u_4 := kF.cell 4
          have u_5 := kF.cell 5
          simp at u_0 u_1 u_2 u_3 u_4 u_5
          have g0 := kF.frozen 0
          have g1 := kF.frozen 1
          have g5 := kF.frozen 5
          have y_0 : ∀ n : CalmW W0.heap.size W0, n.val.cell? ⟨w.heap.size, 0, none⟩ = some (.int .i64 m) := fun n => ((kF.below n.below kF.lt).cell 0).trans (by simp)
          have y_1 : ∀ n : CalmW W0.heap.size W0, n.val.cell? ⟨w.heap.size, 1, none⟩ = some (.bool ar) := fun n => ((kF.below n.below kF.lt).cell 1).trans (by simp)
          have y_2 : ∀ n : CalmW W0.heap.size W0, n.val.cell? ⟨w.heap.size, 2, none⟩ = some (.bool ho) := fun n => ((kF.below n.below kF.lt).cell 2).trans (by simp)
          have y_3 : ∀ n : CalmW W0.heap.size W0, n.val.cell? ⟨w.heap.size, 3, none⟩ = some (.int .i64 la) := fun n => ((kF.below n.below kF.lt).cell 3).trans (by simp)
          have y_4 : ∀ n : CalmW W0.heap.size W0, n.val.cell? ⟨w.heap.size, 4, none⟩ = some (.int .i64 lo) := fun n => ((kF.below n.below kF.lt).cell 4).trans (by simp)
          have y_5 : ∀ n : CalmW W0.heap.size W0, n.val.cell? ⟨w.heap.size, 5, none⟩ = some (.int .i64 is) := fun n => ((kF.below n.below kF.lt).cell 5).trans (by simp)
          (refine wp_region_calm (W0.heap.size) (by kernel_rfl) (by kernel_rfl) ?_; (repeat (go_big_quiet_step (first | (with_reducible refine calm_of (Nat.le_refl _) (hS _)) | (with_reducible refine calm_of (Nat.le_refl _) (hN _))))); refine wpQuiet_nil ?_; intro W2 hw'; obtain ⟨⟨_, hW2⟩, hw''⟩ := hw'; subst hw'')
          clear y_0 y_1 y_2 y_3 y_4 y_5
          clear r_0 r_1 r_2 r_3 u_0 u_1 u_2 u_3 u_4 u_5 g0 g1 g5
          (replace kF := kF.below hW2 kF.lt; replace kC := kC.below hW2 kC.lt; replace kZ := kZ.below hW2 kZ.lt; replace B0 := bthen B0 hW2; have c_0 := kF.cell 0; have c_1 := kF.cell 1; have c_2 := kF.cell 2; have c_3 := kF.cell 3; have c_4 := kF.cell 4; have c_5 := kF.cell 5; simp at c_0 c_1 c_2 c_3 c_4 c_5; have f_0 := kF.frozen 0; have f_1 := kF.frozen 1)
          have f_5 := kF.frozen 5
          go_wp2_with (first | (refine wpList_load_row rfl 39 (.tmp 2) rfl w.heap.size rfl 39 (stC ⟨m, ar, ho, la, lo, is⟩) (0, 0) _ kF Tryz.underlying39 rfl (infoR _) ?_) | (refine wpList_store_row rfl 39 (.tmp 4) (.tmp 92) rfl (w.heap.size + 1 + 1) (stC ⟨m, ar, ho, la, lo, is⟩) rfl rfl 39 _ kZ (infoR _) rfl (oneSt _) ?_))
          exact bodyPost_ret (results_two rfl _ _ (w.heap.size + 1 + 1) 39 (stC (⟨m, ar, ho, la, lo, is⟩ : St)) (0, 0) _ (.int .i64 24) rfl rfl (kZ.row _) Tryz.underlying39 rfl (infoR (⟨m, ar, ho, la, lo, is⟩ : St))) rfl ⟨rfl, bel_row B0 _ (by omega) _⟩
        · rw [if_neg (show ¬ ((false : Bool) = false ∧ so - 1 < ne) from fun h => hlt h.2), if_pos rfl]
          have p1 : bits .and .i64 is 8 = 0 := by rw [show ((8 : Int)) = bitI 3 from rfl, hI.1, hh]; rfl
          have p2 : bits .or .i64 is 8 = setI is 3 := hI.2.1
          clear hI hh
          go_enter Tryz.func9, Tryz.ntmps9
          go_wp2_with fail
          generalize World.alloc (World.alloc (World.alloc w _) _) _ = W0 at *
          have r_0 := kC.cell 0
          have r_1 := kC.cell 1
          have r_2 := kC.cell 2
          have r_3 := kC.cell 3
          simp at r_0 r_1 r_2 r_3
          have u_0 := kF.cell 0
          have u_1 := kF.cell 1
          have u_2 := kF.cell 2
          have u_3 := kF.cell 3
          have u_4 := kF.cell 4
          have u_5 := kF.cell 5
          simp at u_0 u_1 u_2 u_3 u_4 u_5
          have g0 := kF.frozen 0
          have g1 := kF.frozen 1
          have g5 := kF.frozen 5
          have y_0 : ∀ n : CalmW W0.heap.size W0, n.val.cell? ⟨w.heap.size, 0, none⟩ = some (.int .i64 m) := fun n => ((kF.below n.below kF.lt).cell 0).trans (by simp)
          have y_1 : ∀ n : CalmW W0.heap.size W0, n.val.cell? ⟨w.heap.size, 1, none⟩ = some (.bool ar) := fun n => ((kF.below n.below kF.lt).cell 1).trans (by simp)
          have y_2 : ∀ n : CalmW W0.heap.size W0, n.val.cell? ⟨w.heap.size, 2, none⟩ = some (.bool ho) := fun n => ((kF.below n.below kF.lt).cell 2).trans (by simp)
          have y_3 : ∀ n : CalmW W0.heap.size W0, n.val.cell? ⟨w.heap.size, 3, none⟩ = some (.int .i64 la) := fun n => ((kF.below n.below kF.lt).cell 3).trans (by simp)
          have y_4 : ∀ n : CalmW W0.heap.size W0, n.val.cell? ⟨w.heap.size, 4, none⟩ = some (.int .i64 lo) := fun n => ((kF.below n.below kF.lt).cell 4).trans (by simp)
          have y_5 : ∀ n : CalmW W0.heap.size W0, n.val.cell? ⟨w.heap.size, 5, none⟩ = some (.int .i64 is) := fun n => ((kF.below n.below kF.lt).cell 5).trans (by simp)
          (refine wp_region_calm (W0.heap.size) (by kernel_rfl) (by kernel_rfl) ?_; (repeat (go_big_quiet_step (first | (with_reducible refine calm_of (Nat.le_refl _) (hS _)) | (with_reducible refine calm_of (Nat.le_refl _) (hN _))))); refine wpQuiet_nil ?_; intro W2 hw'; obtain ⟨⟨_, hW2⟩, hw''⟩ := hw'; subst hw'')
          clear y_0 y_1 y_2 y_3 y_4 y_5
          clear r_0 r_1 r_2 r_3 u_0 u_1 u_2 u_3 u_4 u_5 g0 g1 g5
          (replace kF := kF.below hW2 kF.lt; replace kC := kC.below hW2 kC.lt; replace kZ := kZ.below hW2 kZ.lt; replace B0 := bthen B0 hW2; have c_0 := kF.cell 0; have c_1 := kF.cell 1; have c_2 := kF.cell 2; have c_3 := kF.cell 3; have c_4 := kF.cell 4; have c_5 := kF.cell 5; simp at c_0 c_1 c_2 c_3 c_4 c_5; have f_0 := kF.frozen 0; have f_1 := kF.frozen 1)
          have f_5 := kF.frozen 5
          replace kZ := kZ.other ⟨w.heap.size, 5, none⟩ (by show w.heap.size + 1 + 1 ≠ w.heap.size; omega) (.int .i64 (setI is 3))
          replace B0 := B0.setCell (p := ⟨w.heap.size, 5, none⟩) (Nat.le_refl _) (.int .i64 (setI is 3))
          go_wp2_with (refine wpList_store_row rfl 39 (.tmp 4) (.tmp 98) rfl (w.heap.size + 1 + 1) (stC ⟨m, ar, ho, la, lo, setI is 3⟩) rfl rfl 39 _ kZ (infoR _) rfl (oneSt _) ?_)
          exact bodyPost_ret (results_two rfl _ _ (w.heap.size + 1 + 1) 39 (stC (⟨m, ar, ho, la, lo, setI is 3⟩ : St)) (0, 0) _ (.int .i64 0) rfl rfl (kZ.row _) Tryz.underlying39 rfl (infoR (⟨m, ar, ho, la, lo, setI is 3⟩ : St))) rfl ⟨rfl, bel_row B0 _ (by omega) _⟩

theorem rDelta_any (s : St) (hs : s.ok) (h16 : 0 ≤ s.iso ∧ s.iso < 16) (c : Cm) (hc : c.ok) (w : World) : Calls Tryz.prog 9 #[stV s, cmV c] w (DPost w (deltaS s c) (deltaE s c)) := by
  by_cases hk : 1 ≤ c.kind ∧ c.kind ≤ 6
  · rcases (show c.kind = 1 ∨ c.kind = 4 ∨ c.kind = 2 ∨ c.kind = 3 ∨ c.kind = 5 ∨ c.kind = 6 by omega) with h | h | h | h | h | h
    · exact rDelta1 s hs c hc (.inl h) w
    · exact rDelta1 s hs c hc (.inr h) w
    · exact rDelta2 s hs c hc h w
    · exact rDelta3 s hs c hc h w
    · exact rDelta5 s hs h16 c hc h w
    · exact rDelta6 s hs h16 c hc h w
  · exact rDelta0 s hs c hc hk w
end Go.Proofs.YtebkeocpojlepaaGreatDoor
