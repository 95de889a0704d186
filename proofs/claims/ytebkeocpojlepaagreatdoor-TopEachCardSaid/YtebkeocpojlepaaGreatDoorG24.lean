/- Contracts and plain laws, put together: CDelta, StEq, Guard, Sup, Sample, SampleA. -/
import Derived.Test.YtebkeocpojlepaaGreatDoorG23
import Derived.Test.YtebkeocpojlepaaGreatDoorG14
import Derived.Laws.StructEq
import Derived.Test.YtebkeocpojlepaaGreatDoorG13
import Derived.WalkMore
import Derived.Test.YtebkeocpojlepaaGreatDoorG09
import Derived.Test.YtebkeocpojlepaaGreatDoorG17
/- command.Delta. -/
namespace Go.Proofs.YtebkeocpojlepaaGreatDoor
open Go.RowKit
set_option linter.unusedVariables false
set_option linter.unusedSimpArgs false

set_option maxRecDepth 100000 in
set_option maxHeartbeats 4000000 in
theorem cDelta1 (s K : St) (E : Int) (c : Cm) (hk : c.kind = 1) (hM : ∀ (X : Nat) (W : World), Blk W X 85 (stC s) → Calls Tryz.prog 36 #[.pointer (some ⟨X, 0, none⟩), cmV c] W (CraftPost X W K E)) (w : World) :
    Calls Tryz.prog 25 #[stV s, cmV c] w (DPost w (if E = 0 then K else s) E) := by
  obtain ⟨m, ar, ho, la, lo, is⟩ := s
  obtain ⟨ck, cn, ca, co⟩ := c
  simp only at hk
  subst hk
  by_cases h0 : E = 0
  · subst h0
    rw [if_pos rfl]
    have kF := (((Blk.new w 32 (stC ⟨m, ar, ho, la, lo, is⟩)).alloc (.cells (cmC ⟨1, cn, ca, co⟩) 25)).alloc (.cells zStC 32)).alloc (.cells (stC ⟨m, ar, ho, la, lo, is⟩) 85)
    have kC := ((Blk.new (w.alloc (.cells (stC ⟨m, ar, ho, la, lo, is⟩) 32)) 25 (cmC ⟨1, cn, ca, co⟩)).alloc (.cells zStC 32)).alloc (.cells (stC ⟨m, ar, ho, la, lo, is⟩) 85)
    have kZ := (Blk.new ((w.alloc (.cells (stC ⟨m, ar, ho, la, lo, is⟩) 32)).alloc (.cells (cmC ⟨1, cn, ca, co⟩) 25)) 32 zStC).alloc (.cells (stC ⟨m, ar, ho, la, lo, is⟩) 85)
    have kX := Blk.new (((w.alloc (.cells (stC ⟨m, ar, ho, la, lo, is⟩) 32)).alloc (.cells (cmC ⟨1, cn, ca, co⟩) 25)).alloc (.cells zStC 32)) 85 (stC ⟨m, ar, ho, la, lo, is⟩)
    have B0 : Below w.heap.size w ((((w.alloc (.cells (stC ⟨m, ar, ho, la, lo, is⟩) 32)).alloc (.cells (cmC ⟨1, cn, ca, co⟩) 25)).alloc (.cells zStC 32)).alloc (.cells (stC ⟨m, ar, ho, la, lo, is⟩) 85)) := ((((Below.refl _ w).alloc (Nat.le_refl _) _).alloc (by simp) _).alloc (by simp; omega) _).alloc (by simp; omega) _
    simp only [World.size_alloc] at kC kZ kX
    go_enter Tryz.func25, Tryz.ntmps25
    go_wp2_with fail
    generalize World.alloc (World.alloc (World.alloc (World.alloc w _) _) _) _ = W0 at *
    have hm0 := map_mk W0 (w.heap.size + 1 + 1 + 1)
    have hm1 := mapW_put W0 (w.heap.size + 1 + 1 + 1) 0 (by decide) _ rfl
    have hm2 := mapW_put W0 (w.heap.size + 1 + 1 + 1) 1 (by decide) _ rfl
    have hm3 := mapW_put W0 (w.heap.size + 1 + 1 + 1) 2 (by decide) _ rfl
    have hm4 := mapW_put W0 (w.heap.size + 1 + 1 + 1) 3 (by decide) _ rfl
    have hm5 := mapW_put W0 (w.heap.size + 1 + 1 + 1) 4 (by decide) _ rfl
    have hm6 := mapW_put W0 (w.heap.size + 1 + 1 + 1) 5 (by decide) _ rfl
    have hb6 := mapW_below W0 (w.heap.size + 1 + 1 + 1) 6
    have ha6 := mapW_at W0 (w.heap.size + 1 + 1 + 1) 6
    simp only [Nat.reduceAdd, fnV, show ((0 : Nat) : Int) + 1 = 1 from rfl, show ((1 : Nat) : Int) + 1 = 2 from rfl, show ((2 : Nat) : Int) + 1 = 3 from rfl, show ((3 : Nat) : Int) + 1 = 4 from rfl, show ((4 : Nat) : Int) + 1 = 5 from rfl, show ((5 : Nat) : Int) + 1 = 6 from rfl] at hm0 hm1 hm2 hm3 hm4 hm5 hm6
    generalize mapW W0 (w.heap.size + 1 + 1 + 1) 0 = M0 at *
    generalize mapW W0 (w.heap.size + 1 + 1 + 1) 1 = M1 at *
    generalize mapW W0 (w.heap.size + 1 + 1 + 1) 2 = M2 at *
    generalize mapW W0 (w.heap.size + 1 + 1 + 1) 3 = M3 at *
    generalize mapW W0 (w.heap.size + 1 + 1 + 1) 4 = M4 at *
    generalize mapW W0 (w.heap.size + 1 + 1 + 1) 5 = M5 at *
    generalize mapW W0 (w.heap.size + 1 + 1 + 1) 6 = M6 at *
    have hlk := map_hit M6 W0.heap.size _ 6 0 1 _ ha6 rfl rfl
    unfold fnV at hlk
    clear ha6
    replace kF := kF.below hb6 kF.lt
    replace kC := kC.below hb6 kC.lt
    replace kZ := kZ.below hb6 kZ.lt
    replace kX := kX.below hb6 kX.lt
    replace B0 := bthen B0 hb6
    clear hb6
    have r_0 := kC.cell 0
    have r_1 := kC.cell 1
    have r_2 := kC.cell 2
    have r_3 := kC.cell 3
    simp at r_0 r_1 r_2 r_3
    have u_0 := kF.cell 0
    have u_1 := kF.cell 1
    have u_2 := kF.cell 2
    have u_3 := kF.cell 3
    have u_4 := kF.cell 4
    have u_5 := kF.cell 5
    simp at u_0 u_1 u_2 u_3 u_4 u_5
    have hMX := hM (w.heap.size + 1 + 1 + 1)
    clear hM
    go_simp
    go_wp2_with (first | ((with_reducible refine (hMX _ kX).mono ?_); rintro e w7 ⟨rfl, kX7, t7⟩; replace kX := kX7; replace kZ := t7.blk kZ (by omega); replace B0 := t7.below B0 (by omega)) | (refine wpList_load_row rfl 32 (.tmp 45) rfl (w.heap.size + 1 + 1 + 1) rfl 85 (stC K) (0, 0) _ kX Tryz.underlying32 rfl (infoSt _) ?_) | (refine wpList_store_row rfl 32 (.tmp 4) (.tmp 46) rfl (w.heap.size + 1 + 1) (stC K) rfl rfl 32 _ kZ (infoSt _) rfl (oneSt _) ?_))
    exact bodyPost_ret (results_two rfl _ _ (w.heap.size + 1 + 1) 32 (stC K) (0, 0) _ (.int .i64 0) rfl rfl (kZ.row _) Tryz.underlying32 rfl (infoSt K)) rfl ⟨rfl, bel_row B0 _ (by omega) _⟩
  · rw [if_neg h0]
    have h1 : (E != 0) = true := by simpa using h0
    have kF := (((Blk.new w 32 (stC ⟨m, ar, ho, la, lo, is⟩)).alloc (.cells (cmC ⟨1, cn, ca, co⟩) 25)).alloc (.cells zStC 32)).alloc (.cells (stC ⟨m, ar, ho, la, lo, is⟩) 85)
    have kC := ((Blk.new (w.alloc (.cells (stC ⟨m, ar, ho, la, lo, is⟩) 32)) 25 (cmC ⟨1, cn, ca, co⟩)).alloc (.cells zStC 32)).alloc (.cells (stC ⟨m, ar, ho, la, lo, is⟩) 85)
    have kZ := (Blk.new ((w.alloc (.cells (stC ⟨m, ar, ho, la, lo, is⟩) 32)).alloc (.cells (cmC ⟨1, cn, ca, co⟩) 25)) 32 zStC).alloc (.cells (stC ⟨m, ar, ho, la, lo, is⟩) 85)
    have kX := Blk.new (((w.alloc (.cells (stC ⟨m, ar, ho, la, lo, is⟩) 32)).alloc (.cells (cmC ⟨1, cn, ca, co⟩) 25)).alloc (.cells zStC 32)) 85 (stC ⟨m, ar, ho, la, lo, is⟩)
    have B0 : Below w.heap.size w ((((w.alloc (.cells (stC ⟨m, ar, ho, la, lo, is⟩) 32)).alloc (.cells (cmC ⟨1, cn, ca, co⟩) 25)).alloc (.cells zStC 32)).alloc (.cells (stC ⟨m, ar, ho, la, lo, is⟩) 85)) := ((((Below.refl _ w).alloc (Nat.le_refl _) _).alloc (by simp) _).alloc (by simp; omega) _).alloc (by simp; omega) _
    simp only [World.size_alloc] at kC kZ kX
    go_enter Tryz.func25, Tryz.ntmps25
    go_wp2_with fail
    generalize World.alloc (World.alloc (World.alloc (World.alloc w _) _) _) _ = W0 at *
    have hm0 := map_mk W0 (w.heap.size + 1 + 1 + 1)
    have hm1 := mapW_put W0 (w.heap.size + 1 + 1 + 1) 0 (by decide) _ rfl
    have hm2 := mapW_put W0 (w.heap.size + 1 + 1 + 1) 1 (by decide) _ rfl
    have hm3 := mapW_put W0 (w.heap.size + 1 + 1 + 1) 2 (by decide) _ rfl
    have hm4 := mapW_put W0 (w.heap.size + 1 + 1 + 1) 3 (by decide) _ rfl
    have hm5 := mapW_put W0 (w.heap.size + 1 + 1 + 1) 4 (by decide) _ rfl
    have hm6 := mapW_put W0 (w.heap.size + 1 + 1 + 1) 5 (by decide) _ rfl
    have hb6 := mapW_below W0 (w.heap.size + 1 + 1 + 1) 6
    have ha6 := mapW_at W0 (w.heap.size + 1 + 1 + 1) 6
    simp only [Nat.reduceAdd, fnV, show ((0 : Nat) : Int) + 1 = 1 from rfl, show ((1 : Nat) : Int) + 1 = 2 from rfl, show ((2 : Nat) : Int) + 1 = 3 from rfl, show ((3 : Nat) : Int) + 1 = 4 from rfl, show ((4 : Nat) : Int) + 1 = 5 from rfl, show ((5 : Nat) : Int) + 1 = 6 from rfl] at hm0 hm1 hm2 hm3 hm4 hm5 hm6
    generalize mapW W0 (w.heap.size + 1 + 1 + 1) 0 = M0 at *
    generalize mapW W0 (w.heap.size + 1 + 1 + 1) 1 = M1 at *
    generalize mapW W0 (w.heap.size + 1 + 1 + 1) 2 = M2 at *
    generalize mapW W0 (w.heap.size + 1 + 1 + 1) 3 = M3 at *
    generalize mapW W0 (w.heap.size + 1 + 1 + 1) 4 = M4 at *
    generalize mapW W0 (w.heap.size + 1 + 1 + 1) 5 = M5 at *
    generalize mapW W0 (w.heap.size + 1 + 1 + 1) 6 = M6 at *
    have hlk := map_hit M6 W0.heap.size _ 6 0 1 _ ha6 rfl rfl
    unfold fnV at hlk
    clear ha6
    replace kF := kF.below hb6 kF.lt
    replace kC := kC.below hb6 kC.lt
    replace kZ := kZ.below hb6 kZ.lt
    replace kX := kX.below hb6 kX.lt
    replace B0 := bthen B0 hb6
    clear hb6
    have r_0 := kC.cell 0
    have r_1 := kC.cell 1
    have r_2 := kC.cell 2
    have r_3 := kC.cell 3
    simp at r_0 r_1 r_2 r_3
    have u_0 := kF.cell 0
    have u_1 := kF.cell 1
    have u_2 := kF.cell 2
    have u_3 := kF.cell 3
    have u_4 := kF.cell 4
    have u_5 := kF.cell 5
    simp at u_0 u_1 u_2 u_3 u_4 u_5
    have hMX := hM (w.heap.size + 1 + 1 + 1)
    clear hM
    go_simp
    go_wp2_with (first | ((with_reducible refine (hMX _ kX).mono ?_); rintro e w7 ⟨rfl, kX7, t7⟩; replace kF := t7.blk kF (by omega); replace kZ := t7.blk kZ (by omega); replace B0 := t7.below B0 (by omega)) | (refine wpList_load_row rfl 32 (.tmp 2) rfl w.heap.size rfl 32 (stC ⟨m, ar, ho, la, lo, is⟩) (0, 0) _ kF Tryz.underlying32 rfl (infoSt _) ?_) | (refine wpList_store_row rfl 32 (.tmp 4) (.tmp 41) rfl (w.heap.size + 1 + 1) (stC ⟨m, ar, ho, la, lo, is⟩) rfl rfl 32 _ kZ (infoSt _) rfl (oneSt _) ?_))
    exact bodyPost_ret (results_two rfl _ _ (w.heap.size + 1 + 1) 32 (stC (⟨m, ar, ho, la, lo, is⟩ : St)) (0, 0) _ (.int .i64 E) rfl rfl (kZ.row _) Tryz.underlying32 rfl (infoSt (⟨m, ar, ho, la, lo, is⟩ : St))) rfl ⟨rfl, bel_row B0 _ (by omega) _⟩
set_option maxRecDepth 100000 in
set_option maxHeartbeats 4000000 in
theorem cDelta2 (s K : St) (E : Int) (c : Cm) (hk : c.kind = 2) (hM : ∀ (X : Nat) (W : World), Blk W X 85 (stC s) → Calls Tryz.prog 37 #[.pointer (some ⟨X, 0, none⟩), cmV c] W (CraftPost X W K E)) (w : World) :
    Calls Tryz.prog 25 #[stV s, cmV c] w (DPost w (if E = 0 then K else s) E) := by
  obtain ⟨m, ar, ho, la, lo, is⟩ := s
  obtain ⟨ck, cn, ca, co⟩ := c
  simp only at hk
  subst hk
  by_cases h0 : E = 0
  · subst h0
    rw [if_pos rfl]
    have kF := (((Blk.new w 32 (stC ⟨m, ar, ho, la, lo, is⟩)).alloc (.cells (cmC ⟨2, cn, ca, co⟩) 25)).alloc (.cells zStC 32)).alloc (.cells (stC ⟨m, ar, ho, la, lo, is⟩) 85)
    have kC := ((Blk.new (w.alloc (.cells (stC ⟨m, ar, ho, la, lo, is⟩) 32)) 25 (cmC ⟨2, cn, ca, co⟩)).alloc (.cells zStC 32)).alloc (.cells (stC ⟨m, ar, ho, la, lo, is⟩) 85)
    have kZ := (Blk.new ((w.alloc (.cells (stC ⟨m, ar, ho, la, lo, is⟩) 32)).alloc (.cells (cmC ⟨2, cn, ca, co⟩) 25)) 32 zStC).alloc (.cells (stC ⟨m, ar, ho, la, lo, is⟩) 85)
    have kX := Blk.new (((w.alloc (.cells (stC ⟨m, ar, ho, la, lo, is⟩) 32)).alloc (.cells (cmC ⟨2, cn, ca, co⟩) 25)).alloc (.cells zStC 32)) 85 (stC ⟨m, ar, ho, la, lo, is⟩)
    have B0 : Below w.heap.size w ((((w.alloc (.cells (stC ⟨m, ar, ho, la, lo, is⟩) 32)).alloc (.cells (cmC ⟨2, cn, ca, co⟩) 25)).alloc (.cells zStC 32)).alloc (.cells (stC ⟨m, ar, ho, la, lo, is⟩) 85)) := ((((Below.refl _ w).alloc (Nat.le_refl _) _).alloc (by simp) _).alloc (by simp; omega) _).alloc (by simp; omega) _
    simp only [World.size_alloc] at kC kZ kX
    go_enter Tryz.func25, Tryz.ntmps25
    go_wp2_with fail
    generalize World.alloc (World.alloc (World.alloc (World.alloc w _) _) _) _ = W0 at *
    have hm0 := map_mk W0 (w.heap.size + 1 + 1 + 1)
    have hm1 := mapW_put W0 (w.heap.size + 1 + 1 + 1) 0 (by decide) _ rfl
    have hm2 := mapW_put W0 (w.heap.size + 1 + 1 + 1) 1 (by decide) _ rfl
    have hm3 := mapW_put W0 (w.heap.size + 1 + 1 + 1) 2 (by decide) _ rfl
    have hm4 := mapW_put W0 (w.heap.size + 1 + 1 + 1) 3 (by decide) _ rfl
    have hm5 := mapW_put W0 (w.heap.size + 1 + 1 + 1) 4 (by decide) _ rfl
    have hm6 := mapW_put W0 (w.heap.size + 1 + 1 + 1) 5 (by decide) _ rfl
    have hb6 := mapW_below W0 (w.heap.size + 1 + 1 + 1) 6
    have ha6 := mapW_at W0 (w.heap.size + 1 + 1 + 1) 6
    simp only [Nat.reduceAdd, fnV, show ((0 : Nat) : Int) + 1 = 1 from rfl, show ((1 : Nat) : Int) + 1 = 2 from rfl, show ((2 : Nat) : Int) + 1 = 3 from rfl, show ((3 : Nat) : Int) + 1 = 4 from rfl, show ((4 : Nat) : Int) + 1 = 5 from rfl, show ((5 : Nat) : Int) + 1 = 6 from rfl] at hm0 hm1 hm2 hm3 hm4 hm5 hm6
    generalize mapW W0 (w.heap.size + 1 + 1 + 1) 0 = M0 at *
    generalize mapW W0 (w.heap.size + 1 + 1 + 1) 1 = M1 at *
    generalize mapW W0 (w.heap.size + 1 + 1 + 1) 2 = M2 at *
    generalize mapW W0 (w.heap.size + 1 + 1 + 1) 3 = M3 at *
    generalize mapW W0 (w.heap.size + 1 + 1 + 1) 4 = M4 at *
    generalize mapW W0 (w.heap.size + 1 + 1 + 1) 5 = M5 at *
    generalize mapW W0 (w.heap.size + 1 + 1 + 1) 6 = M6 at *
    have hlk := map_hit M6 W0.heap.size _ 6 1 2 _ ha6 rfl rfl
    unfold fnV at hlk
    clear ha6
    replace kF := kF.below hb6 kF.lt
    replace kC := kC.below hb6 kC.lt
    replace kZ := kZ.below hb6 kZ.lt
    replace kX := kX.below hb6 kX.lt
    replace B0 := bthen B0 hb6
    clear hb6
    have r_0 := kC.cell 0
    have r_1 := kC.cell 1
    have r_2 := kC.cell 2
    have r_3 := kC.cell 3
    simp at r_0 r_1 r_2 r_3
    have u_0 := kF.cell 0
    have u_1 := kF.cell 1
    have u_2 := kF.cell 2
    have u_3 := kF.cell 3
    have u_4 := kF.cell 4
    have u_5 := kF.cell 5
    simp at u_0 u_1 u_2 u_3 u_4 u_5
    have hMX := hM (w.heap.size + 1 + 1 + 1)
    clear hM
    go_simp
    go_wp2_with (first | ((with_reducible refine (hMX _ kX).mono ?_); rintro e w7 ⟨rfl, kX7, t7⟩; replace kX := kX7; replace kZ := t7.blk kZ (by omega); replace B0 := t7.below B0 (by omega)) | (refine wpList_load_row rfl 32 (.tmp 45) rfl (w.heap.size + 1 + 1 + 1) rfl 85 (stC K) (0, 0) _ kX Tryz.underlying32 rfl (infoSt _) ?_) | (refine wpList_store_row rfl 32 (.tmp 4) (.tmp 46) rfl (w.heap.size + 1 + 1) (stC K) rfl rfl 32 _ kZ (infoSt _) rfl (oneSt _) ?_))
    exact bodyPost_ret (results_two rfl _ _ (w.heap.size + 1 + 1) 32 (stC K) (0, 0) _ (.int .i64 0) rfl rfl (kZ.row _) Tryz.underlying32 rfl (infoSt K)) rfl ⟨rfl, bel_row B0 _ (by omega) _⟩
  · rw [if_neg h0]
    have h1 : (E != 0) = true := by simpa using h0
    have kF := (((Blk.new w 32 (stC ⟨m, ar, ho, la, lo, is⟩)).alloc (.cells (cmC ⟨2, cn, ca, co⟩) 25)).alloc (.cells zStC 32)).alloc (.cells (stC ⟨m, ar, ho, la, lo, is⟩) 85)
    have kC := ((Blk.new (w.alloc (.cells (stC ⟨m, ar, ho, la, lo, is⟩) 32)) 25 (cmC ⟨2, cn, ca, co⟩)).alloc (.cells zStC 32)).alloc (.cells (stC ⟨m, ar, ho, la, lo, is⟩) 85)
    have kZ := (Blk.new ((w.alloc (.cells (stC ⟨m, ar, ho, la, lo, is⟩) 32)).alloc (.cells (cmC ⟨2, cn, ca, co⟩) 25)) 32 zStC).alloc (.cells (stC ⟨m, ar, ho, la, lo, is⟩) 85)
    have kX := Blk.new (((w.alloc (.cells (stC ⟨m, ar, ho, la, lo, is⟩) 32)).alloc (.cells (cmC ⟨2, cn, ca, co⟩) 25)).alloc (.cells zStC 32)) 85 (stC ⟨m, ar, ho, la, lo, is⟩)
    have B0 : Below w.heap.size w ((((w.alloc (.cells (stC ⟨m, ar, ho, la, lo, is⟩) 32)).alloc (.cells (cmC ⟨2, cn, ca, co⟩) 25)).alloc (.cells zStC 32)).alloc (.cells (stC ⟨m, ar, ho, la, lo, is⟩) 85)) := ((((Below.refl _ w).alloc (Nat.le_refl _) _).alloc (by simp) _).alloc (by simp; omega) _).alloc (by simp; omega) _
    simp only [World.size_alloc] at kC kZ kX
    go_enter Tryz.func25, Tryz.ntmps25
    go_wp2_with fail
    generalize World.alloc (World.alloc (World.alloc (World.alloc w _) _) _) _ = W0 at *
    have hm0 := map_mk W0 (w.heap.size + 1 + 1 + 1)
    have hm1 := mapW_put W0 (w.heap.size + 1 + 1 + 1) 0 (by decide) _ rfl
    have hm2 := mapW_put W0 (w.heap.size + 1 + 1 + 1) 1 (by decide) _ rfl
    have hm3 := mapW_put W0 (w.heap.size + 1 + 1 + 1) 2 (by decide) _ rfl
    have hm4 := mapW_put W0 (w.heap.size + 1 + 1 + 1) 3 (by decide) _ rfl
    have hm5 := mapW_put W0 (w.heap.size + 1 + 1 + 1) 4 (by decide) _ rfl
    have hm6 := mapW_put W0 (w.heap.size + 1 + 1 + 1) 5 (by decide) _ rfl
    have hb6 := mapW_below W0 (w.heap.size + 1 + 1 + 1) 6
    have ha6 := mapW_at W0 (w.heap.size + 1 + 1 + 1) 6
    simp only [Nat.reduceAdd, fnV, show ((0 : Nat) : Int) + 1 = 1 from rfl, show ((1 : Nat) : Int) + 1 = 2 from rfl, show ((2 : Nat) : Int) + 1 = 3 from rfl, show ((3 : Nat) : Int) + 1 = 4 from rfl, show ((4 : Nat) : Int) + 1 = 5 from rfl, show ((5 : Nat) : Int) + 1 = 6 from rfl] at hm0 hm1 hm2 hm3 hm4 hm5 hm6
    generalize mapW W0 (w.heap.size + 1 + 1 + 1) 0 = M0 at *
    generalize mapW W0 (w.heap.size + 1 + 1 + 1) 1 = M1 at *
    generalize mapW W0 (w.heap.size + 1 + 1 + 1) 2 = M2 at *
    generalize mapW W0 (w.heap.size + 1 + 1 + 1) 3 = M3 at *
    generalize mapW W0 (w.heap.size + 1 + 1 + 1) 4 = M4 at *
    generalize mapW W0 (w.heap.size + 1 + 1 + 1) 5 = M5 at *
    generalize mapW W0 (w.heap.size + 1 + 1 + 1) 6 = M6 at *
    have hlk := map_hit M6 W0.heap.size _ 6 1 2 _ ha6 rfl rfl
    unfold fnV at hlk
    clear ha6
    replace kF := kF.below hb6 kF.lt
    replace kC := kC.below hb6 kC.lt
    replace kZ := kZ.below hb6 kZ.lt
    replace kX := kX.below hb6 kX.lt
    replace B0 := bthen B0 hb6
    clear hb6
    have r_0 := kC.cell 0
    have r_1 := kC.cell 1
    have r_2 := kC.cell 2
    have r_3 := kC.cell 3
    simp at r_0 r_1 r_2 r_3
    have u_0 := kF.cell 0
    have u_1 := kF.cell 1
    have u_2 := kF.cell 2
    have u_3 := kF.cell 3
    have u_4 := kF.cell 4
    have u_5 := kF.cell 5
    simp at u_0 u_1 u_2 u_3 u_4 u_5
    have hMX := hM (w.heap.size + 1 + 1 + 1)
    clear hM
    go_simp
    go_wp2_with (first | ((with_reducible refine (hMX _ kX).mono ?_); rintro e w7 ⟨rfl, kX7, t7⟩; replace kF := t7.blk kF (by omega); replace kZ := t7.blk kZ (by omega); replace B0 := t7.below B0 (by omega)) | (refine wpList_load_row rfl 32 (.tmp 2) rfl w.heap.size rfl 32 (stC ⟨m, ar, ho, la, lo, is⟩) (0, 0) _ kF Tryz.underlying32 rfl (infoSt _) ?_) | (refine wpList_store_row rfl 32 (.tmp 4) (.tmp 41) rfl (w.heap.size + 1 + 1) (stC ⟨m, ar, ho, la, lo, is⟩) rfl rfl 32 _ kZ (infoSt _) rfl (oneSt _) ?_))
    exact bodyPost_ret (results_two rfl _ _ (w.heap.size + 1 + 1) 32 (stC (⟨m, ar, ho, la, lo, is⟩ : St)) (0, 0) _ (.int .i64 E) rfl rfl (kZ.row _) Tryz.underlying32 rfl (infoSt (⟨m, ar, ho, la, lo, is⟩ : St))) rfl ⟨rfl, bel_row B0 _ (by omega) _⟩
set_option maxRecDepth 100000 in
set_option maxHeartbeats 4000000 in
theorem cDelta3 (s K : St) (E : Int) (c : Cm) (hk : c.kind = 3) (hM : ∀ (X : Nat) (W : World), Blk W X 85 (stC s) → Calls Tryz.prog 38 #[.pointer (some ⟨X, 0, none⟩), cmV c] W (CraftPost X W K E)) (w : World) :
    Calls Tryz.prog 25 #[stV s, cmV c] w (DPost w (if E = 0 then K else s) E) := by
  obtain ⟨m, ar, ho, la, lo, is⟩ := s
  obtain ⟨ck, cn, ca, co⟩ := c
  simp only at hk
  subst hk
  by_cases h0 : E = 0
  · subst h0
    rw [if_pos rfl]
    have kF := (((Blk.new w 32 (stC ⟨m, ar, ho, la, lo, is⟩)).alloc (.cells (cmC ⟨3, cn, ca, co⟩) 25)).alloc (.cells zStC 32)).alloc (.cells (stC ⟨m, ar, ho, la, lo, is⟩) 85)
    have kC := ((Blk.new (w.alloc (.cells (stC ⟨m, ar, ho, la, lo, is⟩) 32)) 25 (cmC ⟨3, cn, ca, co⟩)).alloc (.cells zStC 32)).alloc (.cells (stC ⟨m, ar, ho, la, lo, is⟩) 85)
    have kZ := (Blk.new ((w.alloc (.cells (stC ⟨m, ar, ho, la, lo, is⟩) 32)).alloc (.cells (cmC ⟨3, cn, ca, co⟩) 25)) 32 zStC).alloc (.cells (stC ⟨m, ar, ho, la, lo, is⟩) 85)
    have kX := Blk.new (((w.alloc (.cells (stC ⟨m, ar, ho, la, lo, is⟩) 32)).alloc (.cells (cmC ⟨3, cn, ca, co⟩) 25)).alloc (.cells zStC 32)) 85 (stC ⟨m, ar, ho, la, lo, is⟩)
    have B0 : Below w.heap.size w ((((w.alloc (.cells (stC ⟨m, ar, ho, la, lo, is⟩) 32)).alloc (.cells (cmC ⟨3, cn, ca, co⟩) 25)).alloc (.cells zStC 32)).alloc (.cells (stC ⟨m, ar, ho, la, lo, is⟩) 85)) := ((((Below.refl _ w).alloc (Nat.le_refl _) _).alloc (by simp) _).alloc (by simp; omega) _).alloc (by simp; omega) _
    simp only [World.size_alloc] at kC kZ kX
    go_enter Tryz.func25, Tryz.ntmps25
    go_wp2_with fail
    generalize World.alloc (World.alloc (World.alloc (World.alloc w _) _) _) _ = W0 at *
    have hm0 := map_mk W0 (w.heap.size + 1 + 1 + 1)
    have hm1 := mapW_put W0 (w.heap.size + 1 + 1 + 1) 0 (by decide) _ rfl
    have hm2 := mapW_put W0 (w.heap.size + 1 + 1 + 1) 1 (by decide) _ rfl
    have hm3 := mapW_put W0 (w.heap.size + 1 + 1 + 1) 2 (by decide) _ rfl
    have hm4 := mapW_put W0 (w.heap.size + 1 + 1 + 1) 3 (by decide) _ rfl
    have hm5 := mapW_put W0 (w.heap.size + 1 + 1 + 1) 4 (by decide) _ rfl
    have hm6 := mapW_put W0 (w.heap.size + 1 + 1 + 1) 5 (by decide) _ rfl
    have hb6 := mapW_below W0 (w.heap.size + 1 + 1 + 1) 6
    have ha6 := mapW_at W0 (w.heap.size + 1 + 1 + 1) 6
    simp only [Nat.reduceAdd, fnV, show ((0 : Nat) : Int) + 1 = 1 from rfl, show ((1 : Nat) : Int) + 1 = 2 from rfl, show ((2 : Nat) : Int) + 1 = 3 from rfl, show ((3 : Nat) : Int) + 1 = 4 from rfl, show ((4 : Nat) : Int) + 1 = 5 from rfl, show ((5 : Nat) : Int) + 1 = 6 from rfl] at hm0 hm1 hm2 hm3 hm4 hm5 hm6
    generalize mapW W0 (w.heap.size + 1 + 1 + 1) 0 = M0 at *
    generalize mapW W0 (w.heap.size + 1 + 1 + 1) 1 = M1 at *
    generalize mapW W0 (w.heap.size + 1 + 1 + 1) 2 = M2 at *
    generalize mapW W0 (w.heap.size + 1 + 1 + 1) 3 = M3 at *
    generalize mapW W0 (w.heap.size + 1 + 1 + 1) 4 = M4 at *
    generalize mapW W0 (w.heap.size + 1 + 1 + 1) 5 = M5 at *
    generalize mapW W0 (w.heap.size + 1 + 1 + 1) 6 = M6 at *
    have hlk := map_hit M6 W0.heap.size _ 6 2 3 _ ha6 rfl rfl
    unfold fnV at hlk
    clear ha6
    replace kF := kF.below hb6 kF.lt
    replace kC := kC.below hb6 kC.lt
    replace kZ := kZ.below hb6 kZ.lt
    replace kX := kX.below hb6 kX.lt
    replace B0 := bthen B0 hb6
    clear hb6
    have r_0 := kC.cell 0
    have r_1 := kC.cell 1
    have r_2 := kC.cell 2
    have r_3 := kC.cell 3
    simp at r_0 r_1 r_2 r_3
    have u_0 := kF.cell 0
    have u_1 := kF.cell 1
    have u_2 := kF.cell 2
    have u_3 := kF.cell 3
    have u_4 := kF.cell 4
    have u_5 := kF.cell 5
    simp at u_0 u_1 u_2 u_3 u_4 u_5
    have hMX := hM (w.heap.size + 1 + 1 + 1)
    clear hM
    go_simp
    go_wp2_with (first | ((with_reducible refine (hMX _ kX).mono ?_); rintro e w7 ⟨rfl, kX7, t7⟩; replace kX := kX7; replace kZ := t7.blk kZ (by omega); replace B0 := t7.below B0 (by omega)) | (refine wpList_load_row rfl 32 (.tmp 45) rfl (w.heap.size + 1 + 1 + 1) rfl 85 (stC K) (0, 0) _ kX Tryz.underlying32 rfl (infoSt _) ?_) | (refine wpList_store_row rfl 32 (.tmp 4) (.tmp 46) rfl (w.heap.size + 1 + 1) (stC K) rfl rfl 32 _ kZ (infoSt _) rfl (oneSt _) ?_))
    exact bodyPost_ret (results_two rfl _ _ (w.heap.size + 1 + 1) 32 (stC K) (0, 0) _ (.int .i64 0) rfl rfl (kZ.row _) Tryz.underlying32 rfl (infoSt K)) rfl ⟨rfl, bel_row B0 _ (by omega) _⟩
  · rw [if_neg h0]
    have h1 : (E != 0) = true := by simpa using h0
    have kF := (((Blk.new w 32 (stC ⟨m, ar, ho, la, lo, is⟩)).alloc (.cells (cmC ⟨3, cn, ca, co⟩) 25)).alloc (.cells zStC 32)).alloc (.cells (stC ⟨m, ar, ho, la, lo, is⟩) 85)
    have kC := ((Blk.new (w.alloc (.cells (stC ⟨m, ar, ho, la, lo, is⟩) 32)) 25 (cmC ⟨3, cn, ca, co⟩)).alloc (.cells zStC 32)).alloc (.cells (stC ⟨m, ar, ho, la, lo, is⟩) 85)
    have kZ := (Blk.new ((w.alloc (.cells (stC ⟨m, ar, ho, la, lo, is⟩) 32)).alloc (.cells (cmC ⟨3, cn, ca, co⟩) 25)) 32 zStC).alloc (.cells (stC ⟨m, ar, ho, la, lo, is⟩) 85)
    have kX := Blk.new (((w.alloc (.cells (stC ⟨m, ar, ho, la, lo, is⟩) 32)).alloc (.cells (cmC ⟨3, cn, ca, co⟩) 25)).alloc (.cells zStC 32)) 85 (stC ⟨m, ar, ho, la, lo, is⟩)
    have B0 : Below w.heap.size w ((((w.alloc (.cells (stC ⟨m, ar, ho, la, lo, is⟩) 32)).alloc (.cells (cmC ⟨3, cn, ca, co⟩) 25)).alloc (.cells zStC 32)).alloc (.cells (stC ⟨m, ar, ho, la, lo, is⟩) 85)) := ((((Below.refl _ w).alloc (Nat.le_refl _) _).alloc (by simp) _).alloc (by simp; omega) _).alloc (by simp; omega) _
    simp only [World.size_alloc] at kC kZ kX
    go_enter Tryz.func25, Tryz.ntmps25
    go_wp2_with fail
    generalize World.alloc (World.alloc (World.alloc (World.alloc w _) _) _) _ = W0 at *
    have hm0 := map_mk W0 (w.heap.size + 1 + 1 + 1)
    have hm1 := mapW_put W0 (w.heap.size + 1 + 1 + 1) 0 (by decide) _ rfl
    have hm2 := mapW_put W0 (w.heap.size + 1 + 1 + 1) 1 (by decide) _ rfl
    have hm3 := mapW_put W0 (w.heap.size + 1 + 1 + 1) 2 (by decide) _ rfl
    have hm4 := mapW_put W0 (w.heap.size + 1 + 1 + 1) 3 (by decide) _ rfl
    have hm5 := mapW_put W0 (w.heap.size + 1 + 1 + 1) 4 (by decide) _ rfl
    have hm6 := mapW_put W0 (w.heap.size + 1 + 1 + 1) 5 (by decide) _ rfl
    have hb6 := mapW_below W0 (w.heap.size + 1 + 1 + 1) 6
    have ha6 := mapW_at W0 (w.heap.size + 1 + 1 + 1) 6
    simp only [Nat.reduceAdd, fnV, show ((0 : Nat) : Int) + 1 = 1 from rfl, show ((1 : Nat) : Int) + 1 = 2 from rfl, show ((2 : Nat) : Int) + 1 = 3 from rfl, show ((3 : Nat) : Int) + 1 = 4 from rfl, show ((4 : Nat) : Int) + 1 = 5 from rfl, show ((5 : Nat) : Int) + 1 = 6 from rfl] at hm0 hm1 hm2 hm3 hm4 hm5 hm6
    generalize mapW W0 (w.heap.size + 1 + 1 + 1) 0 = M0 at *
    generalize mapW W0 (w.heap.size + 1 + 1 + 1) 1 = M1 at *
    generalize mapW W0 (w.heap.size + 1 + 1 + 1) 2 = M2 at *
    generalize mapW W0 (w.heap.size + 1 + 1 + 1) 3 = M3 at *
    generalize mapW W0 (w.heap.size + 1 + 1 + 1) 4 = M4 at *
    generalize mapW W0 (w.heap.size + 1 + 1 + 1) 5 = M5 at *
    generalize mapW W0 (w.heap.size + 1 + 1 + 1) 6 = M6 at *
    have hlk := map_hit M6 W0.heap.size _ 6 2 3 _ ha6 rfl rfl
    unfold fnV at hlk
    clear ha6
    replace kF := kF.below hb6 kF.lt
    replace kC := kC.below hb6 kC.lt
    replace kZ := kZ.below hb6 kZ.lt
    replace kX := kX.below hb6 kX.lt
    replace B0 := bthen B0 hb6
    clear hb6
    have r_0 := kC.cell 0
    have r_1 := kC.cell 1
    have r_2 := kC.cell 2
    have r_3 := kC.cell 3
    simp at r_0 r_1 r_2 r_3
    have u_0 := kF.cell 0
    have u_1 := kF.cell 1
    have u_2 := kF.cell 2
    have u_3 := kF.cell 3
    have u_4 := kF.cell 4
    have u_5 := kF.cell 5
    simp at u_0 u_1 u_2 u_3 u_4 u_5
    have hMX := hM (w.heap.size + 1 + 1 + 1)
    clear hM
    go_simp
    go_wp2_with (first | ((with_reducible refine (hMX _ kX).mono ?_); rintro e w7 ⟨rfl, kX7, t7⟩; replace kF := t7.blk kF (by omega); replace kZ := t7.blk kZ (by omega); replace B0 := t7.below B0 (by omega)) | (refine wpList_load_row rfl 32 (.tmp 2) rfl w.heap.size rfl 32 (stC ⟨m, ar, ho, la, lo, is⟩) (0, 0) _ kF Tryz.underlying32 rfl (infoSt _) ?_) | (refine wpList_store_row rfl 32 (.tmp 4) (.tmp 41) rfl (w.heap.size + 1 + 1) (stC ⟨m, ar, ho, la, lo, is⟩) rfl rfl 32 _ kZ (infoSt _) rfl (oneSt _) ?_))
    exact bodyPost_ret (results_two rfl _ _ (w.heap.size + 1 + 1) 32 (stC (⟨m, ar, ho, la, lo, is⟩ : St)) (0, 0) _ (.int .i64 E) rfl rfl (kZ.row _) Tryz.underlying32 rfl (infoSt (⟨m, ar, ho, la, lo, is⟩ : St))) rfl ⟨rfl, bel_row B0 _ (by omega) _⟩
set_option maxRecDepth 100000 in
set_option maxHeartbeats 4000000 in
theorem cDelta4 (s K : St) (E : Int) (c : Cm) (hk : c.kind = 4) (hM : ∀ (X : Nat) (W : World), Blk W X 85 (stC s) → Calls Tryz.prog 39 #[.pointer (some ⟨X, 0, none⟩), cmV c] W (CraftPost X W K E)) (w : World) :
    Calls Tryz.prog 25 #[stV s, cmV c] w (DPost w (if E = 0 then K else s) E) := by
  obtain ⟨m, ar, ho, la, lo, is⟩ := s
  obtain ⟨ck, cn, ca, co⟩ := c
  simp only at hk
  subst hk
  by_cases h0 : E = 0
  · subst h0
    rw [if_pos rfl]
    have kF := (((Blk.new w 32 (stC ⟨m, ar, ho, la, lo, is⟩)).alloc (.cells (cmC ⟨4, cn, ca, co⟩) 25)).alloc (.cells zStC 32)).alloc (.cells (stC ⟨m, ar, ho, la, lo, is⟩) 85)
    have kC := ((Blk.new (w.alloc (.cells (stC ⟨m, ar, ho, la, lo, is⟩) 32)) 25 (cmC ⟨4, cn, ca, co⟩)).alloc (.cells zStC 32)).alloc (.cells (stC ⟨m, ar, ho, la, lo, is⟩) 85)
    have kZ := (Blk.new ((w.alloc (.cells (stC ⟨m, ar, ho, la, lo, is⟩) 32)).alloc (.cells (cmC ⟨4, cn, ca, co⟩) 25)) 32 zStC).alloc (.cells (stC ⟨m, ar, ho, la, lo, is⟩) 85)
    have kX := Blk.new (((w.alloc (.cells (stC ⟨m, ar, ho, la, lo, is⟩) 32)).alloc (.cells (cmC ⟨4, cn, ca, co⟩) 25)).alloc (.cells zStC 32)) 85 (stC ⟨m, ar, ho, la, lo, is⟩)
    have B0 : Below w.heap.size w ((((w.alloc (.cells (stC ⟨m, ar, ho, la, lo, is⟩) 32)).alloc (.cells (cmC ⟨4, cn, ca, co⟩) 25)).alloc (.cells zStC 32)).alloc (.cells (stC ⟨m, ar, ho, la, lo, is⟩) 85)) := ((((Below.refl _ w).alloc (Nat.le_refl _) _).alloc (by simp) _).alloc (by simp; omega) _).alloc (by simp; omega) _
    simp only [World.size_alloc] at kC kZ kX
    go_enter Tryz.func25, Tryz.ntmps25
    go_wp2_with fail
    generalize World.alloc (World.alloc (World.alloc (World.alloc w _) _) _) _ = W0 at *
    have hm0 := map_mk W0 (w.heap.size + 1 + 1 + 1)
    have hm1 := mapW_put W0 (w.heap.size + 1 + 1 + 1) 0 (by decide) _ rfl
    have hm2 := mapW_put W0 (w.heap.size + 1 + 1 + 1) 1 (by decide) _ rfl
    have hm3 := mapW_put W0 (w.heap.size + 1 + 1 + 1) 2 (by decide) _ rfl
    have hm4 := mapW_put W0 (w.heap.size + 1 + 1 + 1) 3 (by decide) _ rfl
    have hm5 := mapW_put W0 (w.heap.size + 1 + 1 + 1) 4 (by decide) _ rfl
    have hm6 := mapW_put W0 (w.heap.size + 1 + 1 + 1) 5 (by decide) _ rfl
    have hb6 := mapW_below W0 (w.heap.size + 1 + 1 + 1) 6
    have ha6 := mapW_at W0 (w.heap.size + 1 + 1 + 1) 6
    simp only [Nat.reduceAdd, fnV, show ((0 : Nat) : Int) + 1 = 1 from rfl, show ((1 : Nat) : Int) + 1 = 2 from rfl, show ((2 : Nat) : Int) + 1 = 3 from rfl, show ((3 : Nat) : Int) + 1 = 4 from rfl, show ((4 : Nat) : Int) + 1 = 5 from rfl, show ((5 : Nat) : Int) + 1 = 6 from rfl] at hm0 hm1 hm2 hm3 hm4 hm5 hm6
    generalize mapW W0 (w.heap.size + 1 + 1 + 1) 0 = M0 at *
    generalize mapW W0 (w.heap.size + 1 + 1 + 1) 1 = M1 at *
    generalize mapW W0 (w.heap.size + 1 + 1 + 1) 2 = M2 at *
    generalize mapW W0 (w.heap.size + 1 + 1 + 1) 3 = M3 at *
    generalize mapW W0 (w.heap.size + 1 + 1 + 1) 4 = M4 at *
    generalize mapW W0 (w.heap.size + 1 + 1 + 1) 5 = M5 at *
    generalize mapW W0 (w.heap.size + 1 + 1 + 1) 6 = M6 at *
    have hlk := map_hit M6 W0.heap.size _ 6 3 4 _ ha6 rfl rfl
    unfold fnV at hlk
    clear ha6
    replace kF := kF.below hb6 kF.lt
    replace kC := kC.below hb6 kC.lt
    replace kZ := kZ.below hb6 kZ.lt
    replace kX := kX.below hb6 kX.lt
    replace B0 := bthen B0 hb6
    clear hb6
    have r_0 := kC.cell 0
    have r_1 := kC.cell 1
    have r_2 := kC.cell 2
    have r_3 := kC.cell 3
    simp at r_0 r_1 r_2 r_3
    have u_0 := kF.cell 0
    have u_1 := kF.cell 1
    have u_2 := kF.cell 2
    have u_3 := kF.cell 3
    have u_4 := kF.cell 4
    have u_5 := kF.cell 5
    simp at u_0 u_1 u_2 u_3 u_4 u_5
    have hMX := hM (w.heap.size + 1 + 1 + 1)
    clear hM
    go_simp
    go_wp2_with (first | ((with_reducible refine (hMX _ kX).mono ?_); rintro e w7 ⟨rfl, kX7, t7⟩; replace kX := kX7; replace kZ := t7.blk kZ (by omega); replace B0 := t7.below B0 (by omega)) | (refine wpList_load_row rfl 32 (.tmp 45) rfl (w.heap.size + 1 + 1 + 1) rfl 85 (stC K) (0, 0) _ kX Tryz.underlying32 rfl (infoSt _) ?_) | (refine wpList_store_row rfl 32 (.tmp 4) (.tmp 46) rfl (w.heap.size + 1 + 1) (stC K) rfl rfl 32 _ kZ (infoSt _) rfl (oneSt _) ?_))
    exact bodyPost_ret (results_two rfl _ _ (w.heap.size + 1 + 1) 32 (stC K) (0, 0) _ (.int .i64 0) rfl rfl (kZ.row _) Tryz.underlying32 rfl (infoSt K)) rfl ⟨rfl, bel_row B0 _ (by omega) _⟩
  · rw [if_neg h0]
    have h1 : (E != 0) = true := by simpa using h0
    have kF := (((Blk.new w 32 (stC ⟨m, ar, ho, la, lo, is⟩)).alloc (.cells (cmC ⟨4, cn, ca, co⟩) 25)).alloc (.cells zStC 32)).alloc (.cells (stC ⟨m, ar, ho, la, lo, is⟩) 85)
    have kC := ((Blk.new (w.alloc (.cells (stC ⟨m, ar, ho, la, lo, is⟩) 32)) 25 (cmC ⟨4, cn, ca, co⟩)).alloc (.cells zStC 32)).alloc (.cells (stC ⟨m, ar, ho, la, lo, is⟩) 85)
    have kZ := (Blk.new ((w.alloc (.cells (stC ⟨m, ar, ho, la, lo, is⟩) 32)).alloc (.cells (cmC ⟨4, cn, ca, co⟩) 25)) 32 zStC).alloc (.cells (stC ⟨m, ar, ho, la, lo, is⟩) 85)
    have kX := Blk.new (((w.alloc (.cells (stC ⟨m, ar, ho, la, lo, is⟩) 32)).alloc (.cells (cmC ⟨4, cn, ca, co⟩) 25)).alloc (.cells zStC 32)) 85 (stC ⟨m, ar, ho, la, lo, is⟩)
    have B0 : Below w.heap.size w ((((w.alloc (.cells (stC ⟨m, ar, ho, la, lo, is⟩) 32)).alloc (.cells (cmC ⟨4, cn, ca, co⟩) 25)).alloc (.cells zStC 32)).alloc (.cells (stC ⟨m, ar, ho, la, lo, is⟩) 85)) := ((((Below.refl _ w).alloc (Nat.le_refl _) _).alloc (by simp) _).alloc (by simp; omega) _).alloc (by simp; omega) _
    simp only [World.size_alloc] at kC kZ kX
    go_enter Tryz.func25, Tryz.ntmps25
    go_wp2_with fail
    generalize World.alloc (World.alloc (World.alloc (World.alloc w _) _) _) _ = W0 at *
    have hm0 := map_mk W0 (w.heap.size + 1 + 1 + 1)
    have hm1 := mapW_put W0 (w.heap.size + 1 + 1 + 1) 0 (by decide) _ rfl
    have hm2 := mapW_put W0 (w.heap.size + 1 + 1 + 1) 1 (by decide) _ rfl
    have hm3 := mapW_put W0 (w.heap.size + 1 + 1 + 1) 2 (by decide) _ rfl
    have hm4 := mapW_put W0 (w.heap.size + 1 + 1 + 1) 3 (by decide) _ rfl
    have hm5 := mapW_put W0 (w.heap.size + 1 + 1 + 1) 4 (by decide) _ rfl
    have hm6 := mapW_put W0 (w.heap.size + 1 + 1 + 1) 5 (by decide) _ rfl
    have hb6 := mapW_below W0 (w.heap.size + 1 + 1 + 1) 6
    have ha6 := mapW_at W0 (w.heap.size + 1 + 1 + 1) 6
    simp only [Nat.reduceAdd, fnV, show ((0 : Nat) : Int) + 1 = 1 from rfl, show ((1 : Nat) : Int) + 1 = 2 from rfl, show ((2 : Nat) : Int) + 1 = 3 from rfl, show ((3 : Nat) : Int) + 1 = 4 from rfl, show ((4 : Nat) : Int) + 1 = 5 from rfl, show ((5 : Nat) : Int) + 1 = 6 from rfl] at hm0 hm1 hm2 hm3 hm4 hm5 hm6
    generalize mapW W0 (w.heap.size + 1 + 1 + 1) 0 = M0 at *
    generalize mapW W0 (w.heap.size + 1 + 1 + 1) 1 = M1 at *
    generalize mapW W0 (w.heap.size + 1 + 1 + 1) 2 = M2 at *
    generalize mapW W0 (w.heap.size + 1 + 1 + 1) 3 = M3 at *
    generalize mapW W0 (w.heap.size + 1 + 1 + 1) 4 = M4 at *
    generalize mapW W0 (w.heap.size + 1 + 1 + 1) 5 = M5 at *
    generalize mapW W0 (w.heap.size + 1 + 1 + 1) 6 = M6 at *
    have hlk := map_hit M6 W0.heap.size _ 6 3 4 _ ha6 rfl rfl
    unfold fnV at hlk
    clear ha6
    replace kF := kF.below hb6 kF.lt
    replace kC := kC.below hb6 kC.lt
    replace kZ := kZ.below hb6 kZ.lt
    replace kX := kX.below hb6 kX.lt
    replace B0 := bthen B0 hb6
    clear hb6
    have r_0 := kC.cell 0
    have r_1 := kC.cell 1
    have r_2 := kC.cell 2
    have r_3 := kC.cell 3
    simp at r_0 r_1 r_2 r_3
    have u_0 := kF.cell 0
    have u_1 := kF.cell 1
    have u_2 := kF.cell 2
    have u_3 := kF.cell 3
    have u_4 := kF.cell 4
    have u_5 := kF.cell 5
    simp at u_0 u_1 u_2 u_3 u_4 u_5
    have hMX := hM (w.heap.size + 1 + 1 + 1)
    clear hM
    go_simp
    go_wp2_with (first | ((with_reducible refine (hMX _ kX).mono ?_); rintro e w7 ⟨rfl, kX7, t7⟩; replace kF := t7.blk kF (by omega); replace kZ := t7.blk kZ (by omega); replace B0 := t7.below B0 (by omega)) | (refine wpList_load_row rfl 32 (.tmp 2) rfl w.heap.size rfl 32 (stC ⟨m, ar, ho, la, lo, is⟩) (0, 0) _ kF Tryz.underlying32 rfl (infoSt _) ?_) | (refine wpList_store_row rfl 32 (.tmp 4) (.tmp 41) rfl (w.heap.size + 1 + 1) (stC ⟨m, ar, ho, la, lo, is⟩) rfl rfl 32 _ kZ (infoSt _) rfl (oneSt _) ?_))
    exact bodyPost_ret (results_two rfl _ _ (w.heap.size + 1 + 1) 32 (stC (⟨m, ar, ho, la, lo, is⟩ : St)) (0, 0) _ (.int .i64 E) rfl rfl (kZ.row _) Tryz.underlying32 rfl (infoSt (⟨m, ar, ho, la, lo, is⟩ : St))) rfl ⟨rfl, bel_row B0 _ (by omega) _⟩
set_option maxRecDepth 100000 in
set_option maxHeartbeats 4000000 in
theorem cDelta5 (s K : St) (E : Int) (c : Cm) (hk : c.kind = 5) (hM : ∀ (X : Nat) (W : World), Blk W X 85 (stC s) → Calls Tryz.prog 40 #[.pointer (some ⟨X, 0, none⟩), cmV c] W (CraftPost X W K E)) (w : World) :
    Calls Tryz.prog 25 #[stV s, cmV c] w (DPost w (if E = 0 then K else s) E) := by
  obtain ⟨m, ar, ho, la, lo, is⟩ := s
  obtain ⟨ck, cn, ca, co⟩ := c
  simp only at hk
  subst hk
  by_cases h0 : E = 0
  · subst h0
    rw [if_pos rfl]
    have kF := (((Blk.new w 32 (stC ⟨m, ar, ho, la, lo, is⟩)).alloc (.cells (cmC ⟨5, cn, ca, co⟩) 25)).alloc (.cells zStC 32)).alloc (.cells (stC ⟨m, ar, ho, la, lo, is⟩) 85)
    have kC := ((Blk.new (w.alloc (.cells (stC ⟨m, ar, ho, la, lo, is⟩) 32)) 25 (cmC ⟨5, cn, ca, co⟩)).alloc (.cells zStC 32)).alloc (.cells (stC ⟨m, ar, ho, la, lo, is⟩) 85)
    have kZ := (Blk.new ((w.alloc (.cells (stC ⟨m, ar, ho, la, lo, is⟩) 32)).alloc (.cells (cmC ⟨5, cn, ca, co⟩) 25)) 32 zStC).alloc (.cells (stC ⟨m, ar, ho, la, lo, is⟩) 85)
    have kX := Blk.new (((w.alloc (.cells (stC ⟨m, ar, ho, la, lo, is⟩) 32)).alloc (.cells (cmC ⟨5, cn, ca, co⟩) 25)).alloc (.cells zStC 32)) 85 (stC ⟨m, ar, ho, la, lo, is⟩)
    have B0 : Below w.heap.size w ((((w.alloc (.cells (stC ⟨m, ar, ho, la, lo, is⟩) 32)).alloc (.cells (cmC ⟨5, cn, ca, co⟩) 25)).alloc (.cells zStC 32)).alloc (.cells (stC ⟨m, ar, ho, la, lo, is⟩) 85)) := ((((Below.refl _ w).alloc (Nat.le_refl _) _).alloc (by simp) _).alloc (by simp; omega) _).alloc (by simp; omega) _
    simp only [World.size_alloc] at kC kZ kX
    go_enter Tryz.func25, Tryz.ntmps25
    go_wp2_with fail
    generalize World.alloc (World.alloc (World.alloc (World.alloc w _) _) _) _ = W0 at *
    have hm0 := map_mk W0 (w.heap.size + 1 + 1 + 1)
    have hm1 := mapW_put W0 (w.heap.size + 1 + 1 + 1) 0 (by decide) _ rfl
    have hm2 := mapW_put W0 (w.heap.size + 1 + 1 + 1) 1 (by decide) _ rfl
    have hm3 := mapW_put W0 (w.heap.size + 1 + 1 + 1) 2 (by decide) _ rfl
    have hm4 := mapW_put W0 (w.heap.size + 1 + 1 + 1) 3 (by decide) _ rfl
    have hm5 := mapW_put W0 (w.heap.size + 1 + 1 + 1) 4 (by decide) _ rfl
    have hm6 := mapW_put W0 (w.heap.size + 1 + 1 + 1) 5 (by decide) _ rfl
    have hb6 := mapW_below W0 (w.heap.size + 1 + 1 + 1) 6
    have ha6 := mapW_at W0 (w.heap.size + 1 + 1 + 1) 6
    simp only [Nat.reduceAdd, fnV, show ((0 : Nat) : Int) + 1 = 1 from rfl, show ((1 : Nat) : Int) + 1 = 2 from rfl, show ((2 : Nat) : Int) + 1 = 3 from rfl, show ((3 : Nat) : Int) + 1 = 4 from rfl, show ((4 : Nat) : Int) + 1 = 5 from rfl, show ((5 : Nat) : Int) + 1 = 6 from rfl] at hm0 hm1 hm2 hm3 hm4 hm5 hm6
    generalize mapW W0 (w.heap.size + 1 + 1 + 1) 0 = M0 at *
    generalize mapW W0 (w.heap.size + 1 + 1 + 1) 1 = M1 at *
    generalize mapW W0 (w.heap.size + 1 + 1 + 1) 2 = M2 at *
    generalize mapW W0 (w.heap.size + 1 + 1 + 1) 3 = M3 at *
    generalize mapW W0 (w.heap.size + 1 + 1 + 1) 4 = M4 at *
    generalize mapW W0 (w.heap.size + 1 + 1 + 1) 5 = M5 at *
    generalize mapW W0 (w.heap.size + 1 + 1 + 1) 6 = M6 at *
    have hlk := map_hit M6 W0.heap.size _ 6 4 5 _ ha6 rfl rfl
    unfold fnV at hlk
    clear ha6
    replace kF := kF.below hb6 kF.lt
    replace kC := kC.below hb6 kC.lt
    replace kZ := kZ.below hb6 kZ.lt
    replace kX := kX.below hb6 kX.lt
    replace B0 := bthen B0 hb6
    clear hb6
    have r_0 := kC.cell 0
    have r_1 := kC.cell 1
    have r_2 := kC.cell 2
    have r_3 := kC.cell 3
    simp at r_0 r_1 r_2 r_3
    have u_0 := kF.cell 0
    have u_1 := kF.cell 1
    have u_2 := kF.cell 2
    have u_3 := kF.cell 3
    have u_4 := kF.cell 4
    have u_5 := kF.cell 5
    simp at u_0 u_1 u_2 u_3 u_4 u_5
    have hMX := hM (w.heap.size + 1 + 1 + 1)
    clear hM
    go_simp
    go_wp2_with (first | ((with_reducible refine (hMX _ kX).mono ?_); rintro e w7 ⟨rfl, kX7, t7⟩; replace kX := kX7; replace kZ := t7.blk kZ (by omega); replace B0 := t7.below B0 (by omega)) | (refine wpList_load_row rfl 32 (.tmp 45) rfl (w.heap.size + 1 + 1 + 1) rfl 85 (stC K) (0, 0) _ kX Tryz.underlying32 rfl (infoSt _) ?_) | (refine wpList_store_row rfl 32 (.tmp 4) (.tmp 46) rfl (w.heap.size + 1 + 1) (stC K) rfl rfl 32 _ kZ (infoSt _) rfl (oneSt _) ?_))
    exact bodyPost_ret (results_two rfl _ _ (w.heap.size + 1 + 1) 32 (stC K) (0, 0) _ (.int .i64 0) rfl rfl (kZ.row _) Tryz.underlying32 rfl (infoSt K)) rfl ⟨rfl, bel_row B0 _ (by omega) _⟩
  · rw [if_neg h0]
    have h1 : (E != 0) = true := by simpa using h0
    have kF := (((Blk.new w 32 (stC ⟨m, ar, ho, la, lo, is⟩)).alloc (.cells (cmC ⟨5, cn, ca, co⟩) 25)).alloc (.cells zStC 32)).alloc (.cells (stC ⟨m, ar, ho, la, lo, is⟩) 85)
    have kC := ((Blk.new (w.alloc (.cells (stC ⟨m, ar, ho, la, lo, is⟩) 32)) 25 (cmC ⟨5, cn, ca, co⟩)).alloc (.cells zStC 32)).alloc (.cells (stC ⟨m, ar, ho, la, lo, is⟩) 85)
    have kZ := (Blk.new ((w.alloc (.cells (stC ⟨m, ar, ho, la, lo, is⟩) 32)).alloc (.cells (cmC ⟨5, cn, ca, co⟩) 25)) 32 zStC).alloc (.cells (stC ⟨m, ar, ho, la, lo, is⟩) 85)
    have kX := Blk.new (((w.alloc (.cells (stC ⟨m, ar, ho, la, lo, is⟩) 32)).alloc (.cells (cmC ⟨5, cn, ca, co⟩) 25)).alloc (.cells zStC 32)) 85 (stC ⟨m, ar, ho, la, lo, is⟩)
    have B0 : Below w.heap.size w ((((w.alloc (.cells (stC ⟨m, ar, ho, la, lo, is⟩) 32)).alloc (.cells (cmC ⟨5, cn, ca, co⟩) 25)).alloc (.cells zStC 32)).alloc (.cells (stC ⟨m, ar, ho, la, lo, is⟩) 85)) := ((((Below.refl _ w).alloc (Nat.le_refl _) _).alloc (by simp) _).alloc (by simp; omega) _).alloc (by simp; omega) _
    simp only [World.size_alloc] at kC kZ kX
    go_enter Tryz.func25, Tryz.ntmps25
    go_wp2_with fail
    generalize World.alloc (World.alloc (World.alloc (World.alloc w _) _) _) _ = W0 at *
    have hm0 := map_mk W0 (w.heap.size + 1 + 1 + 1)
    have hm1 := mapW_put W0 (w.heap.size + 1 + 1 + 1) 0 (by decide) _ rfl
    have hm2 := mapW_put W0 (w.heap.size + 1 + 1 + 1) 1 (by decide) _ rfl
    have hm3 := mapW_put W0 (w.heap.size + 1 + 1 + 1) 2 (by decide) _ rfl
    have hm4 := mapW_put W0 (w.heap.size + 1 + 1 + 1) 3 (by decide) _ rfl
    have hm5 := mapW_put W0 (w.heap.size + 1 + 1 + 1) 4 (by decide) _ rfl
    have hm6 := mapW_put W0 (w.heap.size + 1 + 1 + 1) 5 (by decide) _ rfl
    have hb6 := mapW_below W0 (w.heap.size + 1 + 1 + 1) 6
    have ha6 := mapW_at W0 (w.heap.size + 1 + 1 + 1) 6
    simp only [Nat.reduceAdd, fnV, show ((0 : Nat) : Int) + 1 = 1 from rfl, show ((1 : Nat) : Int) + 1 = 2 from rfl, show ((2 : Nat) : Int) + 1 = 3 from rfl, show ((3 : Nat) : Int) + 1 = 4 from rfl, show ((4 : Nat) : Int) + 1 = 5 from rfl, show ((5 : Nat) : Int) + 1 = 6 from rfl] at hm0 hm1 hm2 hm3 hm4 hm5 hm6
    generalize mapW W0 (w.heap.size + 1 + 1 + 1) 0 = M0 at *
    generalize mapW W0 (w.heap.size + 1 + 1 + 1) 1 = M1 at *
    generalize mapW W0 (w.heap.size + 1 + 1 + 1) 2 = M2 at *
    generalize mapW W0 (w.heap.size + 1 + 1 + 1) 3 = M3 at *
    generalize mapW W0 (w.heap.size + 1 + 1 + 1) 4 = M4 at *
    generalize mapW W0 (w.heap.size + 1 + 1 + 1) 5 = M5 at *
    generalize mapW W0 (w.heap.size + 1 + 1 + 1) 6 = M6 at *
    have hlk := map_hit M6 W0.heap.size _ 6 4 5 _ ha6 rfl rfl
    unfold fnV at hlk
    clear ha6
    replace kF := kF.below hb6 kF.lt
    replace kC := kC.below hb6 kC.lt
    replace kZ := kZ.below hb6 kZ.lt
    replace kX := kX.below hb6 kX.lt
    replace B0 := bthen B0 hb6
    clear hb6
    have r_0 := kC.cell 0
    have r_1 := kC.cell 1
    have r_2 := kC.cell 2
    have r_3 := kC.cell 3
    simp at r_0 r_1 r_2 r_3
    have u_0 := kF.cell 0
    have u_1 := kF.cell 1
    have u_2 := kF.cell 2
    have u_3 := kF.cell 3
    have u_4 := kF.cell 4
    have u_5 := kF.cell 5
    simp at u_0 u_1 u_2 u_3 u_4 u_5
    have hMX := hM (w.heap.size + 1 + 1 + 1)
    clear hM
    go_simp
    go_wp2_with (first | ((with_reducible refine (hMX _ kX).mono ?_); rintro e w7 ⟨rfl, kX7, t7⟩; replace kF := t7.blk kF (by omega); replace kZ := t7.blk kZ (by omega); replace B0 := t7.below B0 (by omega)) | (refine wpList_load_row rfl 32 (.tmp 2) rfl w.heap.size rfl 32 (stC ⟨m, ar, ho, la, lo, is⟩) (0, 0) _ kF Tryz.underlying32 rfl (infoSt _) ?_) | (refine wpList_store_row rfl 32 (.tmp 4) (.tmp 41) rfl (w.heap.size + 1 + 1) (stC ⟨m, ar, ho, la, lo, is⟩) rfl rfl 32 _ kZ (infoSt _) rfl (oneSt _) ?_))
    exact bodyPost_ret (results_two rfl _ _ (w.heap.size + 1 + 1) 32 (stC (⟨m, ar, ho, la, lo, is⟩ : St)) (0, 0) _ (.int .i64 E) rfl rfl (kZ.row _) Tryz.underlying32 rfl (infoSt (⟨m, ar, ho, la, lo, is⟩ : St))) rfl ⟨rfl, bel_row B0 _ (by omega) _⟩
set_option maxRecDepth 100000 in
set_option maxHeartbeats 4000000 in
theorem cDelta6 (s K : St) (E : Int) (c : Cm) (hk : c.kind = 6) (hM : ∀ (X : Nat) (W : World), Blk W X 85 (stC s) → Calls Tryz.prog 40 #[.pointer (some ⟨X, 0, none⟩), cmV c] W (CraftPost X W K E)) (w : World) :
    Calls Tryz.prog 25 #[stV s, cmV c] w (DPost w (if E = 0 then K else s) E) := by
  obtain ⟨m, ar, ho, la, lo, is⟩ := s
  obtain ⟨ck, cn, ca, co⟩ := c
  simp only at hk
  subst hk
  by_cases h0 : E = 0
  · subst h0
    rw [if_pos rfl]
    have kF := (((Blk.new w 32 (stC ⟨m, ar, ho, la, lo, is⟩)).alloc (.cells (cmC ⟨6, cn, ca, co⟩) 25)).alloc (.cells zStC 32)).alloc (.cells (stC ⟨m, ar, ho, la, lo, is⟩) 85)
    have kC := ((Blk.new (w.alloc (.cells (stC ⟨m, ar, ho, la, lo, is⟩) 32)) 25 (cmC ⟨6, cn, ca, co⟩)).alloc (.cells zStC 32)).alloc (.cells (stC ⟨m, ar, ho, la, lo, is⟩) 85)
    have kZ := (Blk.new ((w.alloc (.cells (stC ⟨m, ar, ho, la, lo, is⟩) 32)).alloc (.cells (cmC ⟨6, cn, ca, co⟩) 25)) 32 zStC).alloc (.cells (stC ⟨m, ar, ho, la, lo, is⟩) 85)
    have kX := Blk.new (((w.alloc (.cells (stC ⟨m, ar, ho, la, lo, is⟩) 32)).alloc (.cells (cmC ⟨6, cn, ca, co⟩) 25)).alloc (.cells zStC 32)) 85 (stC ⟨m, ar, ho, la, lo, is⟩)
    have B0 : Below w.heap.size w ((((w.alloc (.cells (stC ⟨m, ar, ho, la, lo, is⟩) 32)).alloc (.cells (cmC ⟨6, cn, ca, co⟩) 25)).alloc (.cells zStC 32)).alloc (.cells (stC ⟨m, ar, ho, la, lo, is⟩) 85)) := ((((Below.refl _ w).alloc (Nat.le_refl _) _).alloc (by simp) _).alloc (by simp; omega) _).alloc (by simp; omega) _
    simp only [World.size_alloc] at kC kZ kX
    go_enter Tryz.func25, Tryz.ntmps25
    go_wp2_with fail
    generalize World.alloc (World.alloc (World.alloc (World.alloc w _) _) _) _ = W0 at *
    have hm0 := map_mk W0 (w.heap.size + 1 + 1 + 1)
    have hm1 := mapW_put W0 (w.heap.size + 1 + 1 + 1) 0 (by decide) _ rfl
    have hm2 := mapW_put W0 (w.heap.size + 1 + 1 + 1) 1 (by decide) _ rfl
    have hm3 := mapW_put W0 (w.heap.size + 1 + 1 + 1) 2 (by decide) _ rfl
    have hm4 := mapW_put W0 (w.heap.size + 1 + 1 + 1) 3 (by decide) _ rfl
    have hm5 := mapW_put W0 (w.heap.size + 1 + 1 + 1) 4 (by decide) _ rfl
    have hm6 := mapW_put W0 (w.heap.size + 1 + 1 + 1) 5 (by decide) _ rfl
    have hb6 := mapW_below W0 (w.heap.size + 1 + 1 + 1) 6
    have ha6 := mapW_at W0 (w.heap.size + 1 + 1 + 1) 6
    simp only [Nat.reduceAdd, fnV, show ((0 : Nat) : Int) + 1 = 1 from rfl, show ((1 : Nat) : Int) + 1 = 2 from rfl, show ((2 : Nat) : Int) + 1 = 3 from rfl, show ((3 : Nat) : Int) + 1 = 4 from rfl, show ((4 : Nat) : Int) + 1 = 5 from rfl, show ((5 : Nat) : Int) + 1 = 6 from rfl] at hm0 hm1 hm2 hm3 hm4 hm5 hm6
    generalize mapW W0 (w.heap.size + 1 + 1 + 1) 0 = M0 at *
    generalize mapW W0 (w.heap.size + 1 + 1 + 1) 1 = M1 at *
    generalize mapW W0 (w.heap.size + 1 + 1 + 1) 2 = M2 at *
    generalize mapW W0 (w.heap.size + 1 + 1 + 1) 3 = M3 at *
    generalize mapW W0 (w.heap.size + 1 + 1 + 1) 4 = M4 at *
    generalize mapW W0 (w.heap.size + 1 + 1 + 1) 5 = M5 at *
    generalize mapW W0 (w.heap.size + 1 + 1 + 1) 6 = M6 at *
    have hlk := map_hit M6 W0.heap.size _ 6 5 6 _ ha6 rfl rfl
    unfold fnV at hlk
    clear ha6
    replace kF := kF.below hb6 kF.lt
    replace kC := kC.below hb6 kC.lt
    replace kZ := kZ.below hb6 kZ.lt
    replace kX := kX.below hb6 kX.lt
    replace B0 := bthen B0 hb6
    clear hb6
    have r_0 := kC.cell 0
    have r_1 := kC.cell 1
    have r_2 := kC.cell 2
    have r_3 := kC.cell 3
    simp at r_0 r_1 r_2 r_3
    have u_0 := kF.cell 0
    have u_1 := kF.cell 1
    have u_2 := kF.cell 2
    have u_3 := kF.cell 3
    have u_4 := kF.cell 4
    have u_5 := kF.cell 5
    simp at u_0 u_1 u_2 u_3 u_4 u_5
    have hMX := hM (w.heap.size + 1 + 1 + 1)
    clear hM
    go_simp
    go_wp2_with (first | ((with_reducible refine (hMX _ kX).mono ?_); rintro e w7 ⟨rfl, kX7, t7⟩; replace kX := kX7; replace kZ := t7.blk kZ (by omega); replace B0 := t7.below B0 (by omega)) | (refine wpList_load_row rfl 32 (.tmp 45) rfl (w.heap.size + 1 + 1 + 1) rfl 85 (stC K) (0, 0) _ kX Tryz.underlying32 rfl (infoSt _) ?_) | (refine wpList_store_row rfl 32 (.tmp 4) (.tmp 46) rfl (w.heap.size + 1 + 1) (stC K) rfl rfl 32 _ kZ (infoSt _) rfl (oneSt _) ?_))
    exact bodyPost_ret (results_two rfl _ _ (w.heap.size + 1 + 1) 32 (stC K) (0, 0) _ (.int .i64 0) rfl rfl (kZ.row _) Tryz.underlying32 rfl (infoSt K)) rfl ⟨rfl, bel_row B0 _ (by omega) _⟩
  · rw [if_neg h0]
    have h1 : (E != 0) = true := by simpa using h0
    have kF := (((Blk.new w 32 (stC ⟨m, ar, ho, la, lo, is⟩)).alloc (.cells (cmC ⟨6, cn, ca, co⟩) 25)).alloc (.cells zStC 32)).alloc (.cells (stC ⟨m, ar, ho, la, lo, is⟩) 85)
    have kC := ((Blk.new (w.alloc (.cells (stC ⟨m, ar, ho, la, lo, is⟩) 32)) 25 (cmC ⟨6, cn, ca, co⟩)).alloc (.cells zStC 32)).alloc (.cells (stC ⟨m, ar, ho, la, lo, is⟩) 85)
    have kZ := (Blk.new ((w.alloc (.cells (stC ⟨m, ar, ho, la, lo, is⟩) 32)).alloc (.cells (cmC ⟨6, cn, ca, co⟩) 25)) 32 zStC).alloc (.cells (stC ⟨m, ar, ho, la, lo, is⟩) 85)
    have kX := Blk.new (((w.alloc (.cells (stC ⟨m, ar, ho, la, lo, is⟩) 32)).alloc (.cells (cmC ⟨6, cn, ca, co⟩) 25)).alloc (.cells zStC 32)) 85 (stC ⟨m, ar, ho, la, lo, is⟩)
    have B0 : Below w.heap.size w ((((w.alloc (.cells (stC ⟨m, ar, ho, la, lo, is⟩) 32)).alloc (.cells (cmC ⟨6, cn, ca, co⟩) 25)).alloc (.cells zStC 32)).alloc (.cells (stC ⟨m, ar, ho, la, lo, is⟩) 85)) := ((((Below.refl _ w).alloc (Nat.le_refl _) _).alloc (by simp) _).alloc (by simp; omega) _).alloc (by simp; omega) _
    simp only [World.size_alloc] at kC kZ kX
    go_enter Tryz.func25, Tryz.ntmps25
    go_wp2_with fail
    generalize World.alloc (World.alloc (World.alloc (World.alloc w _) _) _) _ = W0 at *
    have hm0 := map_mk W0 (w.heap.size + 1 + 1 + 1)
    have hm1 := mapW_put W0 (w.heap.size + 1 + 1 + 1) 0 (by decide) _ rfl
    have hm2 := mapW_put W0 (w.heap.size + 1 + 1 + 1) 1 (by decide) _ rfl
    have hm3 := mapW_put W0 (w.heap.size + 1 + 1 + 1) 2 (by decide) _ rfl
    have hm4 := mapW_put W0 (w.heap.size + 1 + 1 + 1) 3 (by decide) _ rfl
    have hm5 := mapW_put W0 (w.heap.size + 1 + 1 + 1) 4 (by decide) _ rfl
    have hm6 := mapW_put W0 (w.heap.size + 1 + 1 + 1) 5 (by decide) _ rfl
    have hb6 := mapW_below W0 (w.heap.size + 1 + 1 + 1) 6
    have ha6 := mapW_at W0 (w.heap.size + 1 + 1 + 1) 6
    simp only [Nat.reduceAdd, fnV, show ((0 : Nat) : Int) + 1 = 1 from rfl, show ((1 : Nat) : Int) + 1 = 2 from rfl, show ((2 : Nat) : Int) + 1 = 3 from rfl, show ((3 : Nat) : Int) + 1 = 4 from rfl, show ((4 : Nat) : Int) + 1 = 5 from rfl, show ((5 : Nat) : Int) + 1 = 6 from rfl] at hm0 hm1 hm2 hm3 hm4 hm5 hm6
    generalize mapW W0 (w.heap.size + 1 + 1 + 1) 0 = M0 at *
    generalize mapW W0 (w.heap.size + 1 + 1 + 1) 1 = M1 at *
    generalize mapW W0 (w.heap.size + 1 + 1 + 1) 2 = M2 at *
    generalize mapW W0 (w.heap.size + 1 + 1 + 1) 3 = M3 at *
    generalize mapW W0 (w.heap.size + 1 + 1 + 1) 4 = M4 at *
    generalize mapW W0 (w.heap.size + 1 + 1 + 1) 5 = M5 at *
    generalize mapW W0 (w.heap.size + 1 + 1 + 1) 6 = M6 at *
    have hlk := map_hit M6 W0.heap.size _ 6 5 6 _ ha6 rfl rfl
    unfold fnV at hlk
    clear ha6
    replace kF := kF.below hb6 kF.lt
    replace kC := kC.below hb6 kC.lt
    replace kZ := kZ.below hb6 kZ.lt
    replace kX := kX.below hb6 kX.lt
    replace B0 := bthen B0 hb6
    clear hb6
    have r_0 := kC.cell 0
    have r_1 := kC.cell 1
    have r_2 := kC.cell 2
    have r_3 := kC.cell 3
    simp at r_0 r_1 r_2 r_3
    have u_0 := kF.cell 0
    have u_1 := kF.cell 1
    have u_2 := kF.cell 2
    have u_3 := kF.cell 3
    have u_4 := kF.cell 4
    have u_5 := kF.cell 5
    simp at u_0 u_1 u_2 u_3 u_4 u_5
    have hMX := hM (w.heap.size + 1 + 1 + 1)
    clear hM
    go_simp
    go_wp2_with (first | ((with_reducible refine (hMX _ kX).mono ?_); rintro e w7 ⟨rfl, kX7, t7⟩; replace kF := t7.blk kF (by omega); replace kZ := t7.blk kZ (by omega); replace B0 := t7.below B0 (by omega)) | (refine wpList_load_row rfl 32 (.tmp 2) rfl w.heap.size rfl 32 (stC ⟨m, ar, ho, la, lo, is⟩) (0, 0) _ kF Tryz.underlying32 rfl (infoSt _) ?_) | (refine wpList_store_row rfl 32 (.tmp 4) (.tmp 41) rfl (w.heap.size + 1 + 1) (stC ⟨m, ar, ho, la, lo, is⟩) rfl rfl 32 _ kZ (infoSt _) rfl (oneSt _) ?_))
    exact bodyPost_ret (results_two rfl _ _ (w.heap.size + 1 + 1) 32 (stC (⟨m, ar, ho, la, lo, is⟩ : St)) (0, 0) _ (.int .i64 E) rfl rfl (kZ.row _) Tryz.underlying32 rfl (infoSt (⟨m, ar, ho, la, lo, is⟩ : St))) rfl ⟨rfl, bel_row B0 _ (by omega) _⟩

theorem find_none (X : Nat) (k : Int) (h : ¬ (1 ≤ k ∧ k ≤ 6)) : Instr.findNow (.int .i64) (.int .i64 k) (((ents X).take 6).toArray.toList) 0 = some none := by
  have n1 : (k == 1) = false := by simp; omega
  have n2 : (k == 2) = false := by simp; omega
  have n3 : (k == 3) = false := by simp; omega
  have n4 : (k == 4) = false := by simp; omega
  have n5 : (k == 5) = false := by simp; omega
  have n6 : (k == 6) = false := by simp; omega
  simp [ents, Instr.findNow, Instr.sameNow, n1, n2, n3, n4, n5, n6]

set_option maxRecDepth 100000 in
set_option maxHeartbeats 4000000 in
theorem cDelta0 (s : St) (c : Cm) (hk : ¬ (1 ≤ c.kind ∧ c.kind ≤ 6)) (w : World) : Calls Tryz.prog 25 #[stV s, cmV c] w (DPost w s 1) := by
  obtain ⟨m, ar, ho, la, lo, is⟩ := s
  obtain ⟨ck, cn, ca, co⟩ := c
  simp only at hk
  have kF := (((Blk.new w 32 (stC ⟨m, ar, ho, la, lo, is⟩)).alloc (.cells (cmC ⟨ck, cn, ca, co⟩) 25)).alloc (.cells zStC 32)).alloc (.cells (stC ⟨m, ar, ho, la, lo, is⟩) 85)
  have kC := ((Blk.new (w.alloc (.cells (stC ⟨m, ar, ho, la, lo, is⟩) 32)) 25 (cmC ⟨ck, cn, ca, co⟩)).alloc (.cells zStC 32)).alloc (.cells (stC ⟨m, ar, ho, la, lo, is⟩) 85)
  have kZ := (Blk.new ((w.alloc (.cells (stC ⟨m, ar, ho, la, lo, is⟩) 32)).alloc (.cells (cmC ⟨ck, cn, ca, co⟩) 25)) 32 zStC).alloc (.cells (stC ⟨m, ar, ho, la, lo, is⟩) 85)
  have kX := Blk.new (((w.alloc (.cells (stC ⟨m, ar, ho, la, lo, is⟩) 32)).alloc (.cells (cmC ⟨ck, cn, ca, co⟩) 25)).alloc (.cells zStC 32)) 85 (stC ⟨m, ar, ho, la, lo, is⟩)
  have B0 : Below w.heap.size w ((((w.alloc (.cells (stC ⟨m, ar, ho, la, lo, is⟩) 32)).alloc (.cells (cmC ⟨ck, cn, ca, co⟩) 25)).alloc (.cells zStC 32)).alloc (.cells (stC ⟨m, ar, ho, la, lo, is⟩) 85)) := ((((Below.refl _ w).alloc (Nat.le_refl _) _).alloc (by simp) _).alloc (by simp; omega) _).alloc (by simp; omega) _
  simp only [World.size_alloc] at kC kZ kX
  go_enter Tryz.func25, Tryz.ntmps25
  go_wp2_with fail
  generalize World.alloc (World.alloc (World.alloc (World.alloc w _) _) _) _ = W0 at *
  have hm0 := map_mk W0 (w.heap.size + 1 + 1 + 1)
  have hm1 := mapW_put W0 (w.heap.size + 1 + 1 + 1) 0 (by decide) _ rfl
  have hm2 := mapW_put W0 (w.heap.size + 1 + 1 + 1) 1 (by decide) _ rfl
  have hm3 := mapW_put W0 (w.heap.size + 1 + 1 + 1) 2 (by decide) _ rfl
  have hm4 := mapW_put W0 (w.heap.size + 1 + 1 + 1) 3 (by decide) _ rfl
  have hm5 := mapW_put W0 (w.heap.size + 1 + 1 + 1) 4 (by decide) _ rfl
  have hm6 := mapW_put W0 (w.heap.size + 1 + 1 + 1) 5 (by decide) _ rfl
  have hb6 := mapW_below W0 (w.heap.size + 1 + 1 + 1) 6
  have ha6 := mapW_at W0 (w.heap.size + 1 + 1 + 1) 6
  simp only [Nat.reduceAdd, fnV, show ((0 : Nat) : Int) + 1 = 1 from rfl, show ((1 : Nat) : Int) + 1 = 2 from rfl, show ((2 : Nat) : Int) + 1 = 3 from rfl, show ((3 : Nat) : Int) + 1 = 4 from rfl, show ((4 : Nat) : Int) + 1 = 5 from rfl, show ((5 : Nat) : Int) + 1 = 6 from rfl] at hm0 hm1 hm2 hm3 hm4 hm5 hm6
  generalize mapW W0 (w.heap.size + 1 + 1 + 1) 0 = M0 at *
  generalize mapW W0 (w.heap.size + 1 + 1 + 1) 1 = M1 at *
  generalize mapW W0 (w.heap.size + 1 + 1 + 1) 2 = M2 at *
  generalize mapW W0 (w.heap.size + 1 + 1 + 1) 3 = M3 at *
  generalize mapW W0 (w.heap.size + 1 + 1 + 1) 4 = M4 at *
  generalize mapW W0 (w.heap.size + 1 + 1 + 1) 5 = M5 at *
  generalize mapW W0 (w.heap.size + 1 + 1 + 1) 6 = M6 at *
  have hlk := map_miss M6 W0.heap.size _ 6 ck ha6 (find_none _ ck hk) rfl
  clear ha6 hk
  replace kF := kF.below hb6 kF.lt
  replace kC := kC.below hb6 kC.lt
  replace kZ := kZ.below hb6 kZ.lt
  replace B0 := bthen B0 hb6
  clear hb6
  have r_0 := kC.cell 0
  have r_1 := kC.cell 1
  have r_2 := kC.cell 2
  have r_3 := kC.cell 3
  simp at r_0 r_1 r_2 r_3
  go_simp
  go_wp2_with (first | (refine wpList_load_row rfl 32 (.tmp 2) rfl w.heap.size rfl 32 (stC ⟨m, ar, ho, la, lo, is⟩) (0, 0) _ kF Tryz.underlying32 rfl (infoSt _) ?_) | (refine wpList_store_row rfl 32 (.tmp 4) (.tmp 35) rfl (w.heap.size + 1 + 1) (stC ⟨m, ar, ho, la, lo, is⟩) rfl rfl 32 _ kZ (infoSt _) rfl (oneSt _) ?_))
  exact bodyPost_ret (results_two rfl _ _ (w.heap.size + 1 + 1) 32 (stC (⟨m, ar, ho, la, lo, is⟩ : St)) (0, 0) _ (.int .i64 1) rfl rfl (kZ.row _) Tryz.underlying32 rfl (infoSt (⟨m, ar, ho, la, lo, is⟩ : St))) rfl ⟨rfl, bel_row B0 _ (by omega) _⟩

/-- command.Delta answers as dogwatchref16.Delta does -/
theorem cDelta_any (s : St) (h16 : 0 ≤ s.iso ∧ s.iso < 16) (c : Cm) (hc : c.ok) (w : World) : Calls Tryz.prog 25 #[stV s, cmV c] w (DPost w (deltaS s c) (deltaE s c)) := by
  by_cases hk : 1 ≤ c.kind ∧ c.kind ≤ 6
  · rcases (show c.kind = 1 ∨ c.kind = 4 ∨ c.kind = 2 ∨ c.kind = 3 ∨ c.kind = 5 ∨ c.kind = 6 by omega) with h | h | h | h | h | h
    · have e1 : deltaE s c = goesE s c.n := by unfold deltaE; rw [if_pos h]
      have e2 : deltaS s c = if goesE s c.n = 0 then { s with mode := c.n } else s := by unfold deltaS deltaK; rw [e1, if_pos h]
      rw [e1, e2]
      exact cDelta1 s _ _ c h (fun X W k => goes_any s c X W k) w
    · have n1 : ¬ c.kind = 1 := by omega
      have n2 : ¬ c.kind = 2 := by omega
      have n3 : ¬ c.kind = 3 := by omega
      have e1 : deltaE s c = homeE c := by unfold deltaE homeE; rw [if_neg n1, if_neg n2, if_neg n3, if_pos h]
      have e2 : deltaS s c = if homeE c = 0 then homeK s c else s := by
        unfold deltaS deltaK; rw [e1, if_neg n1, if_neg n2, if_neg n3, if_pos h]
        unfold homeE homeK
        by_cases h0 : fixE c.lat L90 = 0
        · rw [if_neg (show ¬ fixE c.lat L90 ≠ 0 by simpa using h0), if_neg (show ¬ fixE c.lat L90 ≠ 0 by simpa using h0)]
        · rw [if_pos h0, if_neg h0, if_neg h0]
      rw [e1, e2]
      exact cDelta4 s _ _ c h (fun X W k => home_any s c hc X W k) w
    · have n1 : ¬ c.kind = 1 := by omega
      have e1 : deltaE s c = if s.armed then 21 else if soundI s.iso < 2 then 24 else 0 := by unfold deltaE; rw [if_neg n1, if_pos h]
      have e2 : deltaS s c = if (if s.armed then 21 else if soundI s.iso < 2 then 24 else 0 : Int) = 0 then { s with armed := true, mode := 1 } else s := by unfold deltaS deltaK; rw [e1, if_neg n1, if_pos h]
      rw [e1, e2]
      exact cDelta2 s _ _ c h (fun X W k => arm_any s c X W k) w
    · have n1 : ¬ c.kind = 1 := by omega
      have n2 : ¬ c.kind = 2 := by omega
      have e1 : deltaE s c = if s.armed = false then 22 else if s.mode ≠ 1 ∧ s.mode ≠ 5 then 20 else 0 := by unfold deltaE; rw [if_neg n1, if_neg n2, if_pos h]
      have e2 : deltaS s c = if (if s.armed = false then 22 else if s.mode ≠ 1 ∧ s.mode ≠ 5 then 20 else 0 : Int) = 0 then { s with armed := false, mode := 0 } else s := by unfold deltaS deltaK; rw [e1, if_neg n1, if_neg n2, if_pos h]
      rw [e1, e2]
      exact cDelta3 s _ _ c h (fun X W k => disarm_any s c X W k) w
    · have n1 : ¬ c.kind = 1 := by omega
      have n2 : ¬ c.kind = 2 := by omega
      have n3 : ¬ c.kind = 3 := by omega
      have n4 : ¬ c.kind = 4 := by omega
      have e1 : deltaE s c = sensorE s c := by unfold deltaE sensorE; rw [if_neg n1, if_neg n2, if_neg n3, if_neg n4, if_pos h]; simp [h]
      have e2 : deltaS s c = if sensorE s c = 0 then sensorK s c else s := by
        unfold deltaS deltaK; rw [e1, if_neg n1, if_neg n2, if_neg n3, if_neg n4, if_pos h]
        unfold sensorK
        by_cases h0 : sensorE s c = 0
        · rw [if_pos h0, if_pos h0, if_neg (show ¬ sensorE s c ≠ 0 by simpa using h0), if_pos h]
        · rw [if_neg h0, if_neg h0]
      rw [e1, e2]
      exact cDelta5 s _ _ c h (fun X W k => sensor5 s h16 c h X W k) w
    · have n1 : ¬ c.kind = 1 := by omega
      have n2 : ¬ c.kind = 2 := by omega
      have n3 : ¬ c.kind = 3 := by omega
      have n4 : ¬ c.kind = 4 := by omega
      have n5 : ¬ c.kind = 5 := by omega
      have e1 : deltaE s c = sensorE s c := by unfold deltaE sensorE; rw [if_neg n1, if_neg n2, if_neg n3, if_neg n4, if_neg n5, if_pos h]; simp [h]
      have e2 : deltaS s c = if sensorE s c = 0 then sensorK s c else s := by
        unfold deltaS deltaK; rw [e1, if_neg n1, if_neg n2, if_neg n3, if_neg n4, if_neg n5, if_pos h]
        unfold sensorK
        by_cases h0 : sensorE s c = 0
        · rw [if_pos h0, if_pos h0, if_neg (show ¬ sensorE s c ≠ 0 by simpa using h0), if_neg n5]
        · rw [if_neg h0, if_neg h0]
      rw [e1, e2]
      exact cDelta6 s _ _ c h (fun X W k => sensor6 s h16 c h X W k) w
  · have e1 : deltaE s c = 1 := by unfold deltaE; rw [if_neg (by omega), if_neg (by omega), if_neg (by omega), if_neg (by omega), if_neg (by omega), if_neg (by omega)]
    have e2 : deltaS s c = s := by unfold deltaS; rw [e1, if_neg (by decide)]
    rw [e1, e2]
    exact cDelta0 s c hk w
end Go.Proofs.YtebkeocpojlepaaGreatDoor

/- Two states are compared. -/
namespace Go.Proofs.YtebkeocpojlepaaGreatDoor
open Go.RowKit
set_option linter.unusedVariables false
set_option linter.unusedSimpArgs false

def eqSt (a b : St) : Bool := a.mode == b.mode && a.armed == b.armed && a.home == b.home && a.lat == b.lat && a.lon == b.lon && a.iso == b.iso
theorem eqSt_iff (a b : St) : eqSt a b = true ↔ a = b := by
  obtain ⟨m, ar, ho, la, lo, is⟩ := a
  obtain ⟨m', ar', ho', la', lo', is'⟩ := b
  simp [eqSt, and_assoc]

theorem eq_st (a b : St) (w : World) : (Op.equal 32 (stV a) (stV b)).run Tryz.prog w = .ok (eqSt a b) w := by
  obtain ⟨m, ar, ho, la, lo, is⟩ := a
  obtain ⟨m', ar', ho', la', lo', is'⟩ := b
  have h := run_equalIn_struct (P := Tryz.prog) w 9999 32 (stC ⟨m, ar, ho, la, lo, is⟩) (stC ⟨m', ar', ho', la', lo', is'⟩) (by kernel_rfl) (by kernel_rfl)
  have e : (Op.equal 32 (stV ⟨m, ar, ho, la, lo, is⟩) (stV ⟨m', ar', ho', la', lo', is'⟩)) = Op.equalIn (9999 + 1) 32 (.agg (stC ⟨m, ar, ho, la, lo, is⟩)) (.agg (stC ⟨m', ar', ho', la', lo', is'⟩)) := rfl
  rw [e, h]
  have hi : ∀ (a b : Int) (w : World), (Op.equalIn 9999 3 (.int .i64 a) (.int .i64 b)).run Tryz.prog w = .ok (a == b) w := fun a b w => run_equalIn_int w 9998 3 .i64 .i64 a b Tryz.underlying3
  have hb : ∀ (a b : Bool) (w : World), (Op.equalIn 9999 4 (.bool a) (.bool b)).run Tryz.prog w = .ok (a == b) w := fun a b w => run_equalIn_bool' w 9998 4 a b Tryz.underlying4
  simp [Program.fieldsOf, Tryz.underlying32, Op.eqFields, go_sem, eqSt, stC, hi, hb, Tryz.underlying3, Tryz.underlying4, Result.andThen]
  clear h e hi hb
  repeat' split
  all_goals simp_all
theorem eq_r14 (a b : St) (w : World) : (Op.equal 39 (stV a) (stV b)).run Tryz.prog w = .ok (eqSt a b) w := by
  obtain ⟨m, ar, ho, la, lo, is⟩ := a
  obtain ⟨m', ar', ho', la', lo', is'⟩ := b
  have h := run_equalIn_struct (P := Tryz.prog) w 9999 39 (stC ⟨m, ar, ho, la, lo, is⟩) (stC ⟨m', ar', ho', la', lo', is'⟩) (by kernel_rfl) (by kernel_rfl)
  have e : (Op.equal 39 (stV ⟨m, ar, ho, la, lo, is⟩) (stV ⟨m', ar', ho', la', lo', is'⟩)) = Op.equalIn (9999 + 1) 39 (.agg (stC ⟨m, ar, ho, la, lo, is⟩)) (.agg (stC ⟨m', ar', ho', la', lo', is'⟩)) := rfl
  rw [e, h]
  have hi : ∀ (a b : Int) (w : World), (Op.equalIn 9999 3 (.int .i64 a) (.int .i64 b)).run Tryz.prog w = .ok (a == b) w := fun a b w => run_equalIn_int w 9998 3 .i64 .i64 a b Tryz.underlying3
  have hb : ∀ (a b : Bool) (w : World), (Op.equalIn 9999 4 (.bool a) (.bool b)).run Tryz.prog w = .ok (a == b) w := fun a b w => run_equalIn_bool' w 9998 4 a b Tryz.underlying4
  simp [Program.fieldsOf, Tryz.underlying39, Op.eqFields, go_sem, eqSt, stC, hi, hb, Tryz.underlying3, Tryz.underlying4, Result.andThen]
  clear h e hi hb
  repeat' split
  all_goals simp_all
theorem run_ne_st (a b : St) (w : World) : (binOp .neq 32 (stV a) (stV b)).run Tryz.prog w = .ok (.bool (!eqSt a b)) w := by
  have h := eq_st a b
  simp only [binOp, Sem.run_bind, h, Result.andThen]
  rfl
theorem run_eq_st (a b : St) (w : World) : (binOp .eql 32 (stV a) (stV b)).run Tryz.prog w = .ok (.bool (eqSt a b)) w := by
  have h := eq_st a b
  simp only [binOp, Sem.run_bind, h, Result.andThen]
  rfl
theorem run_ne_r14 (a b : St) (w : World) : (binOp .neq 39 (stV a) (stV b)).run Tryz.prog w = .ok (.bool (!eqSt a b)) w := by
  have h := eq_r14 a b
  simp only [binOp, Sem.run_bind, h, Result.andThen]
  rfl
theorem run_eq_r14 (a b : St) (w : World) : (binOp .eql 39 (stV a) (stV b)).run Tryz.prog w = .ok (.bool (eqSt a b)) w := by
  have h := eq_r14 a b
  simp only [binOp, Sem.run_bind, h, Result.andThen]
  rfl
end Go.Proofs.YtebkeocpojlepaaGreatDoor

/- super.guard, as a deferred call. -/
namespace Go.Proofs.YtebkeocpojlepaaGreatDoor
open Go.RowKit
set_option linter.unusedVariables false
set_option linter.unusedSimpArgs false

theorem typeAssert_stop (n : Int) (w : World) : (Instr.typeAssert (.iface 67 (.agg #[.int .i64 n])) 20 67 true).run Tryz.prog w = .ok (.tuple #[.agg #[.int .i64 n], .bool true]) w := by
  simp [Instr.typeAssert, go_sem, Tryz.underlying67]

set_option maxHeartbeats 4000000 in
theorem guard_panicking (p : Addr) (x n : Int) (older : List PanicEntry) (w : World) (hc : w.cell? p = some (.int .i64 x)) (hz : w.frozen? p = false) (hp : p.block < w.heap.size) :
    CallsD Tryz.prog 24 #[.pointer (some p)] (.panicking ({ v := .iface 67 (.agg #[.int .i64 n]), recovered := false } :: older)) w fun e u' w' =>
      e = .returned (.tuple #[]) ∧ u' = .panicking ({ v := .iface 67 (.agg #[.int .i64 n]), recovered := true } :: older) ∧ w' = (w.alloc (.cells #[.int .i64 n] 67)).setCell p (.int .i64 n) := by
  have hta := typeAssert_stop n
  refine callsD_of_wpS Tryz.func24 rfl fun c₀ cs hu => ?_
  have hne : (w.alloc (.cells #[.int .i64 n] 67)).cell? p = some (.int .i64 x) := (World.cell?_alloc_lt _ _ _ hp).trans hc
  have hz2 : (w.alloc (.cells #[.int .i64 n] 67)).frozen? p = false := ((Below.refl w.heap.size w).alloc (Nat.le_refl _) _).frozen hp ▸ hz
  apply wpS_seq
  apply wpS_region
  simp [wpOpsS, go_sem, recoverD, hu, Tryz.ntmps24, Exit.thenS, Array.replicate_succ]
  refine wpS_of_wp ?_
  go_wp2
  simp [bodyPostS, results, Tryz.results24]

theorem guard_idle (p : Addr) (w : World) :
    CallsD Tryz.prog 24 #[.pointer (some p)] .returning w fun e u' w' => e = .returned (.tuple #[]) ∧ u' = .returning ∧ w' = w := by
  refine callsD_of_wpS Tryz.func24 rfl fun c₀ cs hu => ?_
  apply wpS_seq
  apply wpS_region
  simp [wpOpsS, go_sem, recoverD, hu, Tryz.ntmps24, Exit.thenS, Array.replicate_succ]
  refine wpS_of_wp ?_
  go_wp2
  cases c₀
  simp_all [bodyPostS, results, Tryz.results24]
end Go.Proofs.YtebkeocpojlepaaGreatDoor

/- super.Command. -/
namespace Go.Proofs.YtebkeocpojlepaaGreatDoor
open Go.RowKit
set_option linter.unusedVariables false
set_option linter.unusedSimpArgs false

def heldB (x : Su) (c : Cm) : Bool := decide (x.ph = 0 ∧ 1 ≤ c.kind ∧ c.kind ≤ 3)
def cmdX (x : Su) (c : Cm) (cut : Int) (mask : ByteArray) : Su :=
  if x.ph = 2 ∨ x.ph = 3 then x else if heldB x c then x else if deltaE x.s c ≠ 0 then x else if eqSt (deltaS x.s c) x.s then x else wrX x (deltaS x.s c) cut mask
def cmdE (x : Su) (c : Cm) (cut : Int) (mask : ByteArray) : Int :=
  if x.ph = 2 ∨ x.ph = 3 then 26 else if heldB x c then 25 else if deltaE x.s c ≠ 0 then deltaE x.s c else if eqSt (deltaS x.s c) x.s then 0 else if wrE x (deltaS x.s c) cut mask then 0 else 26

theorem results_cell_cell {P : Program} {fn : Func} {p q : Tmp} {ty ty2 : TypeId} (h : fn.results = #[.cell p ty, .cell q ty2]) (tmps : Array Value) (w : World) (g : Nat) (t : TypeId) (cs : Array Value) (fr : Nat × Nat) (d : TypeDesc) (A : Addr) (x : Value)
    (hp : tmps.getD p undef = .pointer (some ⟨g, 0, none⟩)) (hq : tmps.getD q undef = .pointer (some A)) (hg : w.heap[g]? = some (.cells cs t fr))
    (hu : P.underlying ty = some d) (hd : (match d with | .struct _ | .array _ _ => true | _ => false) = true) (hi : (P.info? ty).map (·.size) = some cs.size) (hx : (loadVar ty2 A).run P w = .ok x w) :
    (results fn tmps).run P w = .ok (.tuple #[.agg cs, x]) w := by
  have h1 := run_loadVar_row w g t ty cs fr d hg hu hd hi
  rw [Array.getD_eq_getD_getElem?] at hp hq
  simp only [results, h]
  simp [Sem.run_bind, Result.andThen, hp, hq, asAddr, h1, hx]

theorem load_errno (W : World) (A : Addr) (n : Int) (h : W.cell? A = some (.int .i64 n)) : (loadVar 40 A).run Tryz.prog W = .ok (.int .i64 n) W := by
  simp [go_sem, h, Tryz.underlying40]

def CmdPost (w : World) (X : Su) (E : Int) (e : Ending) (w' : World) : Prop := e = .returned (.tuple #[suV X, .int .i64 E]) ∧ Below w.heap.size w w'

set_option maxRecDepth 100000 in
set_option maxHeartbeats 4000000 in
theorem cmd_off (x : Su) (c : Cm) (cut : Int) (mask : ByteArray) (w : World) (hN : NoneG w) (h : x.ph = 2 ∨ x.ph = 3) :
    Calls Tryz.prog 11 #[suV x, cmV c, .agg #[.int .i64 cut, .string mask]] w (CmdPost w x 26) := by
  have kx := ((((Blk.new w 36 (suC x)).alloc (.cells (cmC c) 25)).alloc (.cells #[.int .i64 cut, .string mask] 48)).alloc (.cells suZ 36)).alloc (.cells #[.int .i64 0] 40)
  have kc := (((Blk.new (w.alloc (.cells (suC x) 36)) 25 (cmC c)).alloc (.cells #[.int .i64 cut, .string mask] 48)).alloc (.cells suZ 36)).alloc (.cells #[.int .i64 0] 40)
  have kp := ((Blk.new ((w.alloc (.cells (suC x) 36)).alloc (.cells (cmC c) 25)) 48 #[.int .i64 cut, .string mask]).alloc (.cells suZ 36)).alloc (.cells #[.int .i64 0] 40)
  have ky := (Blk.new (((w.alloc (.cells (suC x) 36)).alloc (.cells (cmC c) 25)).alloc (.cells #[.int .i64 cut, .string mask] 48)) 36 suZ).alloc (.cells #[.int .i64 0] 40)
  have ke := Blk.new ((((w.alloc (.cells (suC x) 36)).alloc (.cells (cmC c) 25)).alloc (.cells #[.int .i64 cut, .string mask] 48)).alloc (.cells suZ 36)) 40 #[.int .i64 0]
  have B0 : Below w.heap.size w (((((w.alloc (.cells (suC x) 36)).alloc (.cells (cmC c) 25)).alloc (.cells #[.int .i64 cut, .string mask] 48)).alloc (.cells suZ 36)).alloc (.cells #[.int .i64 0] 40)) := (((((Below.refl _ w).alloc (Nat.le_refl _) _).alloc (by simp) _).alloc (by simp; omega) _).alloc (by simp; omega) _).alloc (by simp; omega) _
  simp only [World.size_alloc] at kc kp ky ke
  rcases h with h | h
  ·
    go_enter_defers Tryz.func11, Tryz.ntmps11
    go_wp2_with fail
    generalize World.alloc (World.alloc (World.alloc (World.alloc (World.alloc w _) _) _) _) _ = W0 at *
    have p_0 := kc.cell 0
    simp at p_0
    go_step3
    go_wp2_with (first | (refine wpList_load_row rfl 36 (.tmp 3) rfl w.heap.size rfl 36 (suC x) (0, 0) _ kx Tryz.underlying36 rfl (infoSu _) ?_) | ((refine wpList_store_row rfl 36 (.tmp 6) (.tmp 10) rfl (w.heap.size + 1 + 1 + 1) (suC x) rfl rfl 36 _ ky (infoSu _) rfl (oneSu _) ?_; replace kx := kx.rowOther (w.heap.size + 1 + 1 + 1) (by omega) (suC x); replace kc := kc.rowOther (w.heap.size + 1 + 1 + 1) (by omega) (suC x); replace kp := kp.rowOther (w.heap.size + 1 + 1 + 1) (by omega) (suC x); replace ke := ke.rowOther (w.heap.size + 1 + 1 + 1) (by omega) (suC x); replace B0 := bel_row B0 (w.heap.size + 1 + 1 + 1) (by omega) (suC x); replace hN := hN; have ky1 := ky.row (suC x); clear ky; generalize World.setRow W0 _ _ = W1 at *; have x_11 := kx.cell 11; have c_0 := kc.cell 0; simp at x_11 c_0); rw [h] at x_11))
    go_step3
    go_wp2
    refine leaves_cons (f := 24) (args := #[.pointer (some ⟨w.heap.size + 1 + 1 + 1 + 1, 0, none⟩)]) (by simp) (by simp [go_sem]) ?_
    refine (guard_panicking ⟨w.heap.size + 1 + 1 + 1 + 1, 0, none⟩ 0 26 [] _ (ke.cell 0) (ke.frozen 0) ke.lt).mono ?_
    rintro e u' w9 ⟨rfl, rfl, rfl⟩
    have ke9 := (ke.alloc (.cells #[.int .i64 26] 67)).set 0 (.int .i64 26)
    have ky9 := (ky1.alloc (.cells #[.int .i64 26] 67)).other ⟨w.heap.size + 1 + 1 + 1 + 1, 0, none⟩ (by show w.heap.size + 1 + 1 + 1 ≠ w.heap.size + 1 + 1 + 1 + 1; omega) (.int .i64 26)
    have B9 := (B0.alloc B0.size (.cells #[.int .i64 26] 67)).setCell (p := ⟨w.heap.size + 1 + 1 + 1 + 1, 0, none⟩) (by simp; omega) (.int .i64 26)
    generalize World.setCell _ ⟨w.heap.size + 1 + 1 + 1 + 1, 0, none⟩ (.int .i64 26) = w3 at *
    have l9 := load_errno w3 ⟨w.heap.size + 1 + 1 + 1 + 1, 0, none⟩ 26 ((ke9.cell 0).trans (by simp))
    exact ⟨_, results_cell_cell rfl _ _ (w.heap.size + 1 + 1 + 1) 36 (suC x) (0, 0) _ ⟨w.heap.size + 1 + 1 + 1 + 1, 0, none⟩ _ rfl rfl ky9 Tryz.underlying36 rfl (infoSu _) l9, rfl, B9⟩
  ·
    go_enter_defers Tryz.func11, Tryz.ntmps11
    go_wp2_with fail
    generalize World.alloc (World.alloc (World.alloc (World.alloc (World.alloc w _) _) _) _) _ = W0 at *
    have p_0 := kc.cell 0
    simp at p_0
    go_step3
    go_wp2_with (first | (refine wpList_load_row rfl 36 (.tmp 3) rfl w.heap.size rfl 36 (suC x) (0, 0) _ kx Tryz.underlying36 rfl (infoSu _) ?_) | ((refine wpList_store_row rfl 36 (.tmp 6) (.tmp 10) rfl (w.heap.size + 1 + 1 + 1) (suC x) rfl rfl 36 _ ky (infoSu _) rfl (oneSu _) ?_; replace kx := kx.rowOther (w.heap.size + 1 + 1 + 1) (by omega) (suC x); replace kc := kc.rowOther (w.heap.size + 1 + 1 + 1) (by omega) (suC x); replace kp := kp.rowOther (w.heap.size + 1 + 1 + 1) (by omega) (suC x); replace ke := ke.rowOther (w.heap.size + 1 + 1 + 1) (by omega) (suC x); replace B0 := bel_row B0 (w.heap.size + 1 + 1 + 1) (by omega) (suC x); replace hN := hN; have ky1 := ky.row (suC x); clear ky; generalize World.setRow W0 _ _ = W1 at *; have x_11 := kx.cell 11; have c_0 := kc.cell 0; simp at x_11 c_0); rw [h] at x_11))
    go_step3
    go_wp2
    refine leaves_cons (f := 24) (args := #[.pointer (some ⟨w.heap.size + 1 + 1 + 1 + 1, 0, none⟩)]) (by simp) (by simp [go_sem]) ?_
    refine (guard_panicking ⟨w.heap.size + 1 + 1 + 1 + 1, 0, none⟩ 0 26 [] _ (ke.cell 0) (ke.frozen 0) ke.lt).mono ?_
    rintro e u' w9 ⟨rfl, rfl, rfl⟩
    have ke9 := (ke.alloc (.cells #[.int .i64 26] 67)).set 0 (.int .i64 26)
    have ky9 := (ky1.alloc (.cells #[.int .i64 26] 67)).other ⟨w.heap.size + 1 + 1 + 1 + 1, 0, none⟩ (by show w.heap.size + 1 + 1 + 1 ≠ w.heap.size + 1 + 1 + 1 + 1; omega) (.int .i64 26)
    have B9 := (B0.alloc B0.size (.cells #[.int .i64 26] 67)).setCell (p := ⟨w.heap.size + 1 + 1 + 1 + 1, 0, none⟩) (by simp; omega) (.int .i64 26)
    generalize World.setCell _ ⟨w.heap.size + 1 + 1 + 1 + 1, 0, none⟩ (.int .i64 26) = w3 at *
    have l9 := load_errno w3 ⟨w.heap.size + 1 + 1 + 1 + 1, 0, none⟩ 26 ((ke9.cell 0).trans (by simp))
    exact ⟨_, results_cell_cell rfl _ _ (w.heap.size + 1 + 1 + 1) 36 (suC x) (0, 0) _ ⟨w.heap.size + 1 + 1 + 1 + 1, 0, none⟩ _ rfl rfl ky9 Tryz.underlying36 rfl (infoSu _) l9, rfl, B9⟩

set_option maxRecDepth 100000 in
set_option maxHeartbeats 4000000 in
theorem cmd_held (x : Su) (c : Cm) (cut : Int) (mask : ByteArray) (w : World) (hN : NoneG w) (h : x.ph = 0) (hk : c.kind = 1 ∨ c.kind = 2 ∨ c.kind = 3) :
    Calls Tryz.prog 11 #[suV x, cmV c, .agg #[.int .i64 cut, .string mask]] w (CmdPost w x 25) := by
  have kx := ((((Blk.new w 36 (suC x)).alloc (.cells (cmC c) 25)).alloc (.cells #[.int .i64 cut, .string mask] 48)).alloc (.cells suZ 36)).alloc (.cells #[.int .i64 0] 40)
  have kc := (((Blk.new (w.alloc (.cells (suC x) 36)) 25 (cmC c)).alloc (.cells #[.int .i64 cut, .string mask] 48)).alloc (.cells suZ 36)).alloc (.cells #[.int .i64 0] 40)
  have kp := ((Blk.new ((w.alloc (.cells (suC x) 36)).alloc (.cells (cmC c) 25)) 48 #[.int .i64 cut, .string mask]).alloc (.cells suZ 36)).alloc (.cells #[.int .i64 0] 40)
  have ky := (Blk.new (((w.alloc (.cells (suC x) 36)).alloc (.cells (cmC c) 25)).alloc (.cells #[.int .i64 cut, .string mask] 48)) 36 suZ).alloc (.cells #[.int .i64 0] 40)
  have ke := Blk.new ((((w.alloc (.cells (suC x) 36)).alloc (.cells (cmC c) 25)).alloc (.cells #[.int .i64 cut, .string mask] 48)).alloc (.cells suZ 36)) 40 #[.int .i64 0]
  have B0 : Below w.heap.size w (((((w.alloc (.cells (suC x) 36)).alloc (.cells (cmC c) 25)).alloc (.cells #[.int .i64 cut, .string mask] 48)).alloc (.cells suZ 36)).alloc (.cells #[.int .i64 0] 40)) := (((((Below.refl _ w).alloc (Nat.le_refl _) _).alloc (by simp) _).alloc (by simp; omega) _).alloc (by simp; omega) _).alloc (by simp; omega) _
  simp only [World.size_alloc] at kc kp ky ke
  rcases hk with hk | hk | hk
  all_goals
    go_enter_defers Tryz.func11, Tryz.ntmps11
    go_wp2_with fail
    generalize World.alloc (World.alloc (World.alloc (World.alloc (World.alloc w _) _) _) _) _ = W0 at *
    have p_0 := kc.cell 0
    simp at p_0
    go_step3
    go_wp2_with (first | (refine wpList_load_row rfl 36 (.tmp 3) rfl w.heap.size rfl 36 (suC x) (0, 0) _ kx Tryz.underlying36 rfl (infoSu _) ?_) | ((refine wpList_store_row rfl 36 (.tmp 6) (.tmp 10) rfl (w.heap.size + 1 + 1 + 1) (suC x) rfl rfl 36 _ ky (infoSu _) rfl (oneSu _) ?_; replace kx := kx.rowOther (w.heap.size + 1 + 1 + 1) (by omega) (suC x); replace kc := kc.rowOther (w.heap.size + 1 + 1 + 1) (by omega) (suC x); replace kp := kp.rowOther (w.heap.size + 1 + 1 + 1) (by omega) (suC x); replace ke := ke.rowOther (w.heap.size + 1 + 1 + 1) (by omega) (suC x); replace B0 := bel_row B0 (w.heap.size + 1 + 1 + 1) (by omega) (suC x); replace hN := hN; have ky1 := ky.row (suC x); clear ky; generalize World.setRow W0 _ _ = W1 at *; have x_11 := kx.cell 11; have c_0 := kc.cell 0; simp at x_11 c_0); rw [h] at x_11))
    go_step3
    rw [hk] at c_0
    go_wp2
    refine leaves_cons (f := 24) (args := #[.pointer (some ⟨w.heap.size + 1 + 1 + 1 + 1, 0, none⟩)]) (by simp) (by simp [go_sem]) ?_
    refine (guard_panicking ⟨w.heap.size + 1 + 1 + 1 + 1, 0, none⟩ 0 25 [] _ (ke.cell 0) (ke.frozen 0) ke.lt).mono ?_
    rintro e u' w9 ⟨rfl, rfl, rfl⟩
    have ke9 := (ke.alloc (.cells #[.int .i64 25] 67)).set 0 (.int .i64 25)
    have ky9 := (ky1.alloc (.cells #[.int .i64 25] 67)).other ⟨w.heap.size + 1 + 1 + 1 + 1, 0, none⟩ (by show w.heap.size + 1 + 1 + 1 ≠ w.heap.size + 1 + 1 + 1 + 1; omega) (.int .i64 25)
    have B9 := (B0.alloc B0.size (.cells #[.int .i64 25] 67)).setCell (p := ⟨w.heap.size + 1 + 1 + 1 + 1, 0, none⟩) (by simp; omega) (.int .i64 25)
    generalize World.setCell _ ⟨w.heap.size + 1 + 1 + 1 + 1, 0, none⟩ (.int .i64 25) = w3 at *
    have l9 := load_errno w3 ⟨w.heap.size + 1 + 1 + 1 + 1, 0, none⟩ 25 ((ke9.cell 0).trans (by simp))
    exact ⟨_, results_cell_cell rfl _ _ (w.heap.size + 1 + 1 + 1) 36 (suC x) (0, 0) _ ⟨w.heap.size + 1 + 1 + 1 + 1, 0, none⟩ _ rfl rfl ky9 Tryz.underlying36 rfl (infoSu _) l9, rfl, B9⟩

set_option maxRecDepth 100000 in
set_option maxHeartbeats 4000000 in
theorem cmd_err (x : Su) (c : Cm) (S : St) (E : Int) (hD : ∀ W, Calls Tryz.prog 25 #[stV x.s, cmV c] W (DPost W S E)) (hE : E ≠ 0) (cut : Int) (mask : ByteArray) (w : World) (hN : NoneG w) (h2 : ¬ x.ph = 2) (h3 : ¬ x.ph = 3) (hk : x.ph = 0 → ¬ c.kind = 1 ∧ ¬ c.kind = 2 ∧ ¬ c.kind = 3) :
    Calls Tryz.prog 11 #[suV x, cmV c, .agg #[.int .i64 cut, .string mask]] w (CmdPost w x E) := by
  have hE1 : (E != 0) = true := by simpa using hE
  have kx := ((((Blk.new w 36 (suC x)).alloc (.cells (cmC c) 25)).alloc (.cells #[.int .i64 cut, .string mask] 48)).alloc (.cells suZ 36)).alloc (.cells #[.int .i64 0] 40)
  have kc := (((Blk.new (w.alloc (.cells (suC x) 36)) 25 (cmC c)).alloc (.cells #[.int .i64 cut, .string mask] 48)).alloc (.cells suZ 36)).alloc (.cells #[.int .i64 0] 40)
  have kp := ((Blk.new ((w.alloc (.cells (suC x) 36)).alloc (.cells (cmC c) 25)) 48 #[.int .i64 cut, .string mask]).alloc (.cells suZ 36)).alloc (.cells #[.int .i64 0] 40)
  have ky := (Blk.new (((w.alloc (.cells (suC x) 36)).alloc (.cells (cmC c) 25)).alloc (.cells #[.int .i64 cut, .string mask] 48)) 36 suZ).alloc (.cells #[.int .i64 0] 40)
  have ke := Blk.new ((((w.alloc (.cells (suC x) 36)).alloc (.cells (cmC c) 25)).alloc (.cells #[.int .i64 cut, .string mask] 48)).alloc (.cells suZ 36)) 40 #[.int .i64 0]
  have B0 : Below w.heap.size w (((((w.alloc (.cells (suC x) 36)).alloc (.cells (cmC c) 25)).alloc (.cells #[.int .i64 cut, .string mask] 48)).alloc (.cells suZ 36)).alloc (.cells #[.int .i64 0] 40)) := (((((Below.refl _ w).alloc (Nat.le_refl _) _).alloc (by simp) _).alloc (by simp; omega) _).alloc (by simp; omega) _).alloc (by simp; omega) _
  simp only [World.size_alloc] at kc kp ky ke
  by_cases h0 : x.ph = 0
  · obtain ⟨k1, k2, k3⟩ := hk h0
    go_enter_defers Tryz.func11, Tryz.ntmps11
    go_wp2_with fail
    generalize World.alloc (World.alloc (World.alloc (World.alloc (World.alloc w _) _) _) _) _ = W0 at *
    have p_0 := kc.cell 0
    simp at p_0
    go_step3
    go_wp2_with (first | (refine wpList_load_row rfl 36 (.tmp 3) rfl w.heap.size rfl 36 (suC x) (0, 0) _ kx Tryz.underlying36 rfl (infoSu _) ?_) | ((refine wpList_store_row rfl 36 (.tmp 6) (.tmp 10) rfl (w.heap.size + 1 + 1 + 1) (suC x) rfl rfl 36 _ ky (infoSu _) rfl (oneSu _) ?_; replace kx := kx.rowOther (w.heap.size + 1 + 1 + 1) (by omega) (suC x); replace kc := kc.rowOther (w.heap.size + 1 + 1 + 1) (by omega) (suC x); replace kp := kp.rowOther (w.heap.size + 1 + 1 + 1) (by omega) (suC x); replace ke := ke.rowOther (w.heap.size + 1 + 1 + 1) (by omega) (suC x); replace B0 := bel_row B0 (w.heap.size + 1 + 1 + 1) (by omega) (suC x); replace hN := hN; have ky1 := ky.row (suC x); clear ky; generalize World.setRow W0 _ _ = W1 at *; have x_11 := kx.cell 11; have c_0 := kc.cell 0; simp at x_11 c_0)))
    go_step3
    have x_5 := kx.cell 5
    have x_6 := kx.cell 6
    have x_7 := kx.cell 7
    have x_8 := kx.cell 8
    have x_9 := kx.cell 9
    have x_10 := kx.cell 10
    have c_1 := kc.cell 1
    have c_2 := kc.cell 2
    have c_3 := kc.cell 3
    simp at x_5 x_6 x_7 x_8 x_9 x_10 c_1 c_2 c_3
    go_wp2_with ((with_reducible refine (hD _).mono ?_); rintro e w4 ⟨rfl, q4⟩; have kx4 := kx.below q4 kx.lt; have kp4 := kp.below q4 kp.lt; have ky4 := ky1.below q4 ky1.lt; have ke4 := ke.below q4 ke.lt; have B4 := bthen B0 q4; have v_5 := kx4.cell 5; have v_6 := kx4.cell 6; have v_7 := kx4.cell 7; have v_8 := kx4.cell 8; have v_9 := kx4.cell 9; have v_10 := kx4.cell 10; simp at v_5 v_6 v_7 v_8 v_9 v_10; have l4 := kx4.lt; have e4_0 := ke4.cell 0; simp at e4_0; have l4e := ke4.lt; have g_0 := kp4.cell 0; have g_1 := kp4.cell 1; simp at g_0 g_1; have lp := kp4.lt; clear q4 kx kc kp ky1 ke B0)
    have ky1 := ky4.alloc (.cells (stC S) 32)
    have ke := ke4.alloc (.cells (stC S) 32)
    have B0 := B4.alloc B4.size (.cells (stC S) 32)
    refine leaves_cons (f := 24) (args := #[.pointer (some ⟨w.heap.size + 1 + 1 + 1 + 1, 0, none⟩)]) (by simp) (by simp [go_sem]) ?_
    refine (guard_panicking ⟨w.heap.size + 1 + 1 + 1 + 1, 0, none⟩ 0 E [] _ (ke.cell 0) (ke.frozen 0) ke.lt).mono ?_
    rintro e u' w9 ⟨rfl, rfl, rfl⟩
    have ke9 := (ke.alloc (.cells #[.int .i64 E] 67)).set 0 (.int .i64 E)
    have ky9 := (ky1.alloc (.cells #[.int .i64 E] 67)).other ⟨w.heap.size + 1 + 1 + 1 + 1, 0, none⟩ (by show w.heap.size + 1 + 1 + 1 ≠ w.heap.size + 1 + 1 + 1 + 1; omega) (.int .i64 E)
    have B9 := (B0.alloc B0.size (.cells #[.int .i64 E] 67)).setCell (p := ⟨w.heap.size + 1 + 1 + 1 + 1, 0, none⟩) (by simp; omega) (.int .i64 E)
    generalize World.setCell _ ⟨w.heap.size + 1 + 1 + 1 + 1, 0, none⟩ (.int .i64 E) = w3 at *
    have l9 := load_errno w3 ⟨w.heap.size + 1 + 1 + 1 + 1, 0, none⟩ E ((ke9.cell 0).trans (by simp))
    exact ⟨_, results_cell_cell rfl _ _ (w.heap.size + 1 + 1 + 1) 36 (suC x) (0, 0) _ ⟨w.heap.size + 1 + 1 + 1 + 1, 0, none⟩ _ rfl rfl ky9 Tryz.underlying36 rfl (infoSu _) l9, rfl, B9⟩
  ·
    go_enter_defers Tryz.func11, Tryz.ntmps11
    go_wp2_with fail
    generalize World.alloc (World.alloc (World.alloc (World.alloc (World.alloc w _) _) _) _) _ = W0 at *
    have p_0 := kc.cell 0
    simp at p_0
    go_step3
    go_wp2_with (first | (refine wpList_load_row rfl 36 (.tmp 3) rfl w.heap.size rfl 36 (suC x) (0, 0) _ kx Tryz.underlying36 rfl (infoSu _) ?_) | ((refine wpList_store_row rfl 36 (.tmp 6) (.tmp 10) rfl (w.heap.size + 1 + 1 + 1) (suC x) rfl rfl 36 _ ky (infoSu _) rfl (oneSu _) ?_; replace kx := kx.rowOther (w.heap.size + 1 + 1 + 1) (by omega) (suC x); replace kc := kc.rowOther (w.heap.size + 1 + 1 + 1) (by omega) (suC x); replace kp := kp.rowOther (w.heap.size + 1 + 1 + 1) (by omega) (suC x); replace ke := ke.rowOther (w.heap.size + 1 + 1 + 1) (by omega) (suC x); replace B0 := bel_row B0 (w.heap.size + 1 + 1 + 1) (by omega) (suC x); replace hN := hN; have ky1 := ky.row (suC x); clear ky; generalize World.setRow W0 _ _ = W1 at *; have x_11 := kx.cell 11; have c_0 := kc.cell 0; simp at x_11 c_0)))
    go_step3
    have x_5 := kx.cell 5
    have x_6 := kx.cell 6
    have x_7 := kx.cell 7
    have x_8 := kx.cell 8
    have x_9 := kx.cell 9
    have x_10 := kx.cell 10
    have c_1 := kc.cell 1
    have c_2 := kc.cell 2
    have c_3 := kc.cell 3
    simp at x_5 x_6 x_7 x_8 x_9 x_10 c_1 c_2 c_3
    go_wp2_with ((with_reducible refine (hD _).mono ?_); rintro e w4 ⟨rfl, q4⟩; have kx4 := kx.below q4 kx.lt; have kp4 := kp.below q4 kp.lt; have ky4 := ky1.below q4 ky1.lt; have ke4 := ke.below q4 ke.lt; have B4 := bthen B0 q4; have v_5 := kx4.cell 5; have v_6 := kx4.cell 6; have v_7 := kx4.cell 7; have v_8 := kx4.cell 8; have v_9 := kx4.cell 9; have v_10 := kx4.cell 10; simp at v_5 v_6 v_7 v_8 v_9 v_10; have l4 := kx4.lt; have e4_0 := ke4.cell 0; simp at e4_0; have l4e := ke4.lt; have g_0 := kp4.cell 0; have g_1 := kp4.cell 1; simp at g_0 g_1; have lp := kp4.lt; clear q4 kx kc kp ky1 ke B0)
    have ky1 := ky4.alloc (.cells (stC S) 32)
    have ke := ke4.alloc (.cells (stC S) 32)
    have B0 := B4.alloc B4.size (.cells (stC S) 32)
    refine leaves_cons (f := 24) (args := #[.pointer (some ⟨w.heap.size + 1 + 1 + 1 + 1, 0, none⟩)]) (by simp) (by simp [go_sem]) ?_
    refine (guard_panicking ⟨w.heap.size + 1 + 1 + 1 + 1, 0, none⟩ 0 E [] _ (ke.cell 0) (ke.frozen 0) ke.lt).mono ?_
    rintro e u' w9 ⟨rfl, rfl, rfl⟩
    have ke9 := (ke.alloc (.cells #[.int .i64 E] 67)).set 0 (.int .i64 E)
    have ky9 := (ky1.alloc (.cells #[.int .i64 E] 67)).other ⟨w.heap.size + 1 + 1 + 1 + 1, 0, none⟩ (by show w.heap.size + 1 + 1 + 1 ≠ w.heap.size + 1 + 1 + 1 + 1; omega) (.int .i64 E)
    have B9 := (B0.alloc B0.size (.cells #[.int .i64 E] 67)).setCell (p := ⟨w.heap.size + 1 + 1 + 1 + 1, 0, none⟩) (by simp; omega) (.int .i64 E)
    generalize World.setCell _ ⟨w.heap.size + 1 + 1 + 1 + 1, 0, none⟩ (.int .i64 E) = w3 at *
    have l9 := load_errno w3 ⟨w.heap.size + 1 + 1 + 1 + 1, 0, none⟩ E ((ke9.cell 0).trans (by simp))
    exact ⟨_, results_cell_cell rfl _ _ (w.heap.size + 1 + 1 + 1) 36 (suC x) (0, 0) _ ⟨w.heap.size + 1 + 1 + 1 + 1, 0, none⟩ _ rfl rfl ky9 Tryz.underlying36 rfl (infoSu _) l9, rfl, B9⟩

set_option maxRecDepth 100000 in
set_option maxHeartbeats 4000000 in
theorem cmd_same (x : Su) (c : Cm) (S : St) (hD : ∀ W, Calls Tryz.prog 25 #[stV x.s, cmV c] W (DPost W S 0)) (hS : eqSt S x.s = true) (cut : Int) (mask : ByteArray) (w : World) (hN : NoneG w) (h2 : ¬ x.ph = 2) (h3 : ¬ x.ph = 3) (hk : x.ph = 0 → ¬ c.kind = 1 ∧ ¬ c.kind = 2 ∧ ¬ c.kind = 3) :
    Calls Tryz.prog 11 #[suV x, cmV c, .agg #[.int .i64 cut, .string mask]] w (CmdPost w x 0) := by
  have hq := run_ne_st S x.s
  rw [hS, Bool.not_true] at hq
  have kx := ((((Blk.new w 36 (suC x)).alloc (.cells (cmC c) 25)).alloc (.cells #[.int .i64 cut, .string mask] 48)).alloc (.cells suZ 36)).alloc (.cells #[.int .i64 0] 40)
  have kc := (((Blk.new (w.alloc (.cells (suC x) 36)) 25 (cmC c)).alloc (.cells #[.int .i64 cut, .string mask] 48)).alloc (.cells suZ 36)).alloc (.cells #[.int .i64 0] 40)
  have kp := ((Blk.new ((w.alloc (.cells (suC x) 36)).alloc (.cells (cmC c) 25)) 48 #[.int .i64 cut, .string mask]).alloc (.cells suZ 36)).alloc (.cells #[.int .i64 0] 40)
  have ky := (Blk.new (((w.alloc (.cells (suC x) 36)).alloc (.cells (cmC c) 25)).alloc (.cells #[.int .i64 cut, .string mask] 48)) 36 suZ).alloc (.cells #[.int .i64 0] 40)
  have ke := Blk.new ((((w.alloc (.cells (suC x) 36)).alloc (.cells (cmC c) 25)).alloc (.cells #[.int .i64 cut, .string mask] 48)).alloc (.cells suZ 36)) 40 #[.int .i64 0]
  have B0 : Below w.heap.size w (((((w.alloc (.cells (suC x) 36)).alloc (.cells (cmC c) 25)).alloc (.cells #[.int .i64 cut, .string mask] 48)).alloc (.cells suZ 36)).alloc (.cells #[.int .i64 0] 40)) := (((((Below.refl _ w).alloc (Nat.le_refl _) _).alloc (by simp) _).alloc (by simp; omega) _).alloc (by simp; omega) _).alloc (by simp; omega) _
  simp only [World.size_alloc] at kc kp ky ke
  by_cases h0 : x.ph = 0
  · obtain ⟨k1, k2, k3⟩ := hk h0
    go_enter_defers Tryz.func11, Tryz.ntmps11
    go_wp2_with fail
    generalize World.alloc (World.alloc (World.alloc (World.alloc (World.alloc w _) _) _) _) _ = W0 at *
    have p_0 := kc.cell 0
    simp at p_0
    go_step3
    go_wp2_with (first | (refine wpList_load_row rfl 36 (.tmp 3) rfl w.heap.size rfl 36 (suC x) (0, 0) _ kx Tryz.underlying36 rfl (infoSu _) ?_) | ((refine wpList_store_row rfl 36 (.tmp 6) (.tmp 10) rfl (w.heap.size + 1 + 1 + 1) (suC x) rfl rfl 36 _ ky (infoSu _) rfl (oneSu _) ?_; replace kx := kx.rowOther (w.heap.size + 1 + 1 + 1) (by omega) (suC x); replace kc := kc.rowOther (w.heap.size + 1 + 1 + 1) (by omega) (suC x); replace kp := kp.rowOther (w.heap.size + 1 + 1 + 1) (by omega) (suC x); replace ke := ke.rowOther (w.heap.size + 1 + 1 + 1) (by omega) (suC x); replace B0 := bel_row B0 (w.heap.size + 1 + 1 + 1) (by omega) (suC x); replace hN := hN; have ky1 := ky.row (suC x); clear ky; generalize World.setRow W0 _ _ = W1 at *; have x_11 := kx.cell 11; have c_0 := kc.cell 0; simp at x_11 c_0)))
    go_step3
    have x_5 := kx.cell 5
    have x_6 := kx.cell 6
    have x_7 := kx.cell 7
    have x_8 := kx.cell 8
    have x_9 := kx.cell 9
    have x_10 := kx.cell 10
    have c_1 := kc.cell 1
    have c_2 := kc.cell 2
    have c_3 := kc.cell 3
    simp at x_5 x_6 x_7 x_8 x_9 x_10 c_1 c_2 c_3
    go_wp2_with (first | ((with_reducible refine (hD _).mono ?_); rintro e w4 ⟨rfl, q4⟩; have kx4 := kx.below q4 kx.lt; have kp4 := kp.below q4 kp.lt; have ky4 := ky1.below q4 ky1.lt; have ke4 := ke.below q4 ke.lt; have B4 := bthen B0 q4; have v_5 := kx4.cell 5; have v_6 := kx4.cell 6; have v_7 := kx4.cell 7; have v_8 := kx4.cell 8; have v_9 := kx4.cell 9; have v_10 := kx4.cell 10; simp at v_5 v_6 v_7 v_8 v_9 v_10; have l4 := kx4.lt; have e4_0 := ke4.cell 0; simp at e4_0; have l4e := ke4.lt; have g_0 := kp4.cell 0; have g_1 := kp4.cell 1; simp at g_0 g_1; have lp := kp4.lt; clear q4 kx kc kp ky1 ke B0) | (have ky1 := ky4.alloc (.cells (stC S) 32); have ke := ke4.alloc (.cells (stC S) 32); have B0 := B4.alloc B4.size (.cells (stC S) 32); (refine wpList_load_row rfl 36 (.tmp 6) rfl (w.heap.size + 1 + 1 + 1) rfl 36 (suC x) (0, 0) _ ky1 Tryz.underlying36 rfl (infoSu _) ?_)) | (refine wpList_store_row rfl 36 (.tmp 6) (.tmp 47) rfl (w.heap.size + 1 + 1 + 1) (suC x) rfl rfl 36 _ ky1 (infoSu _) rfl (oneSu _) ?_; replace ke := ke.rowOther (w.heap.size + 1 + 1 + 1) (by omega) (suC x); replace B0 := bel_row B0 (w.heap.size + 1 + 1 + 1) (by omega) (suC x); replace ky1 := ky1.row (suC x); generalize World.setRow _ _ _ = W8 at *; have e_0 := ke.cell 0; have f_0 := ke.frozen 0; simp at e_0))
    refine leaves_cons (f := 24) (args := #[.pointer (some ⟨w.heap.size + 1 + 1 + 1 + 1, 0, none⟩)]) (by simp) (by simp [go_sem]) ?_
    refine (guard_idle ⟨w.heap.size + 1 + 1 + 1 + 1, 0, none⟩ _).mono ?_
    rintro e u' w9 ⟨rfl, rfl, rfl⟩
    have ke9 := ke.set 0 (.int .i64 0)
    have ky9 := ky1.other ⟨w.heap.size + 1 + 1 + 1 + 1, 0, none⟩ (by show w.heap.size + 1 + 1 + 1 ≠ w.heap.size + 1 + 1 + 1 + 1; omega) (.int .i64 0)
    have B9 := B0.setCell (p := ⟨w.heap.size + 1 + 1 + 1 + 1, 0, none⟩) (by simp; omega) (.int .i64 0)
    generalize World.setCell _ ⟨w.heap.size + 1 + 1 + 1 + 1, 0, none⟩ (.int .i64 0) = w3 at *
    have l9 := load_errno w3 ⟨w.heap.size + 1 + 1 + 1 + 1, 0, none⟩ 0 ((ke9.cell 0).trans (by simp))
    exact ⟨_, results_cell_cell rfl _ _ (w.heap.size + 1 + 1 + 1) 36 (suC x) (0, 0) _ ⟨w.heap.size + 1 + 1 + 1 + 1, 0, none⟩ _ rfl rfl ky9 Tryz.underlying36 rfl (infoSu _) l9, rfl, B9⟩
  ·
    go_enter_defers Tryz.func11, Tryz.ntmps11
    go_wp2_with fail
    generalize World.alloc (World.alloc (World.alloc (World.alloc (World.alloc w _) _) _) _) _ = W0 at *
    have p_0 := kc.cell 0
    simp at p_0
    go_step3
    go_wp2_with (first | (refine wpList_load_row rfl 36 (.tmp 3) rfl w.heap.size rfl 36 (suC x) (0, 0) _ kx Tryz.underlying36 rfl (infoSu _) ?_) | ((refine wpList_store_row rfl 36 (.tmp 6) (.tmp 10) rfl (w.heap.size + 1 + 1 + 1) (suC x) rfl rfl 36 _ ky (infoSu _) rfl (oneSu _) ?_; replace kx := kx.rowOther (w.heap.size + 1 + 1 + 1) (by omega) (suC x); replace kc := kc.rowOther (w.heap.size + 1 + 1 + 1) (by omega) (suC x); replace kp := kp.rowOther (w.heap.size + 1 + 1 + 1) (by omega) (suC x); replace ke := ke.rowOther (w.heap.size + 1 + 1 + 1) (by omega) (suC x); replace B0 := bel_row B0 (w.heap.size + 1 + 1 + 1) (by omega) (suC x); replace hN := hN; have ky1 := ky.row (suC x); clear ky; generalize World.setRow W0 _ _ = W1 at *; have x_11 := kx.cell 11; have c_0 := kc.cell 0; simp at x_11 c_0)))
    go_step3
    have x_5 := kx.cell 5
    have x_6 := kx.cell 6
    have x_7 := kx.cell 7
    have x_8 := kx.cell 8
    have x_9 := kx.cell 9
    have x_10 := kx.cell 10
    have c_1 := kc.cell 1
    have c_2 := kc.cell 2
    have c_3 := kc.cell 3
    simp at x_5 x_6 x_7 x_8 x_9 x_10 c_1 c_2 c_3
    go_wp2_with (first | ((with_reducible refine (hD _).mono ?_); rintro e w4 ⟨rfl, q4⟩; have kx4 := kx.below q4 kx.lt; have kp4 := kp.below q4 kp.lt; have ky4 := ky1.below q4 ky1.lt; have ke4 := ke.below q4 ke.lt; have B4 := bthen B0 q4; have v_5 := kx4.cell 5; have v_6 := kx4.cell 6; have v_7 := kx4.cell 7; have v_8 := kx4.cell 8; have v_9 := kx4.cell 9; have v_10 := kx4.cell 10; simp at v_5 v_6 v_7 v_8 v_9 v_10; have l4 := kx4.lt; have e4_0 := ke4.cell 0; simp at e4_0; have l4e := ke4.lt; have g_0 := kp4.cell 0; have g_1 := kp4.cell 1; simp at g_0 g_1; have lp := kp4.lt; clear q4 kx kc kp ky1 ke B0) | (have ky1 := ky4.alloc (.cells (stC S) 32); have ke := ke4.alloc (.cells (stC S) 32); have B0 := B4.alloc B4.size (.cells (stC S) 32); (refine wpList_load_row rfl 36 (.tmp 6) rfl (w.heap.size + 1 + 1 + 1) rfl 36 (suC x) (0, 0) _ ky1 Tryz.underlying36 rfl (infoSu _) ?_)) | (refine wpList_store_row rfl 36 (.tmp 6) (.tmp 47) rfl (w.heap.size + 1 + 1 + 1) (suC x) rfl rfl 36 _ ky1 (infoSu _) rfl (oneSu _) ?_; replace ke := ke.rowOther (w.heap.size + 1 + 1 + 1) (by omega) (suC x); replace B0 := bel_row B0 (w.heap.size + 1 + 1 + 1) (by omega) (suC x); replace ky1 := ky1.row (suC x); generalize World.setRow _ _ _ = W8 at *; have e_0 := ke.cell 0; have f_0 := ke.frozen 0; simp at e_0))
    refine leaves_cons (f := 24) (args := #[.pointer (some ⟨w.heap.size + 1 + 1 + 1 + 1, 0, none⟩)]) (by simp) (by simp [go_sem]) ?_
    refine (guard_idle ⟨w.heap.size + 1 + 1 + 1 + 1, 0, none⟩ _).mono ?_
    rintro e u' w9 ⟨rfl, rfl, rfl⟩
    have ke9 := ke.set 0 (.int .i64 0)
    have ky9 := ky1.other ⟨w.heap.size + 1 + 1 + 1 + 1, 0, none⟩ (by show w.heap.size + 1 + 1 + 1 ≠ w.heap.size + 1 + 1 + 1 + 1; omega) (.int .i64 0)
    have B9 := B0.setCell (p := ⟨w.heap.size + 1 + 1 + 1 + 1, 0, none⟩) (by simp; omega) (.int .i64 0)
    generalize World.setCell _ ⟨w.heap.size + 1 + 1 + 1 + 1, 0, none⟩ (.int .i64 0) = w3 at *
    have l9 := load_errno w3 ⟨w.heap.size + 1 + 1 + 1 + 1, 0, none⟩ 0 ((ke9.cell 0).trans (by simp))
    exact ⟨_, results_cell_cell rfl _ _ (w.heap.size + 1 + 1 + 1) 36 (suC x) (0, 0) _ ⟨w.heap.size + 1 + 1 + 1 + 1, 0, none⟩ _ rfl rfl ky9 Tryz.underlying36 rfl (infoSu _) l9, rfl, B9⟩

set_option maxRecDepth 100000 in
set_option maxHeartbeats 4000000 in
theorem cmd_wrote (x : Su) (hf : x.f.ok) (c : Cm) (S : St) (hSo : S.ok) (hD : ∀ W, Calls Tryz.prog 25 #[stV x.s, cmV c] W (DPost W S 0)) (hS : eqSt S x.s = false) (cut : Int) (mask : ByteArray) (hm : mask.size ≤ 1000) (R : Su) (hR : wrX x S cut mask = R) (ok : Bool) (hwr : wrE x S cut mask = ok) (w : World) (hN : NoneG w) (h2 : ¬ x.ph = 2) (h3 : ¬ x.ph = 3) (hk : x.ph = 0 → ¬ c.kind = 1 ∧ ¬ c.kind = 2 ∧ ¬ c.kind = 3) :
    Calls Tryz.prog 11 #[suV x, cmV c, .agg #[.int .i64 cut, .string mask]] w (CmdPost w R (if ok then 0 else 26)) := by
  have hq := run_ne_st S x.s
  rw [hS, Bool.not_false] at hq
  have kx := ((((Blk.new w 36 (suC x)).alloc (.cells (cmC c) 25)).alloc (.cells #[.int .i64 cut, .string mask] 48)).alloc (.cells suZ 36)).alloc (.cells #[.int .i64 0] 40)
  have kc := (((Blk.new (w.alloc (.cells (suC x) 36)) 25 (cmC c)).alloc (.cells #[.int .i64 cut, .string mask] 48)).alloc (.cells suZ 36)).alloc (.cells #[.int .i64 0] 40)
  have kp := ((Blk.new ((w.alloc (.cells (suC x) 36)).alloc (.cells (cmC c) 25)) 48 #[.int .i64 cut, .string mask]).alloc (.cells suZ 36)).alloc (.cells #[.int .i64 0] 40)
  have ky := (Blk.new (((w.alloc (.cells (suC x) 36)).alloc (.cells (cmC c) 25)).alloc (.cells #[.int .i64 cut, .string mask] 48)) 36 suZ).alloc (.cells #[.int .i64 0] 40)
  have ke := Blk.new ((((w.alloc (.cells (suC x) 36)).alloc (.cells (cmC c) 25)).alloc (.cells #[.int .i64 cut, .string mask] 48)).alloc (.cells suZ 36)) 40 #[.int .i64 0]
  have B0 : Below w.heap.size w (((((w.alloc (.cells (suC x) 36)).alloc (.cells (cmC c) 25)).alloc (.cells #[.int .i64 cut, .string mask] 48)).alloc (.cells suZ 36)).alloc (.cells #[.int .i64 0] 40)) := (((((Below.refl _ w).alloc (Nat.le_refl _) _).alloc (by simp) _).alloc (by simp; omega) _).alloc (by simp; omega) _).alloc (by simp; omega) _
  simp only [World.size_alloc] at kc kp ky ke
  cases ok
  case true =>
    by_cases h0 : x.ph = 0
    · obtain ⟨k1, k2, k3⟩ := hk h0
      go_enter_defers Tryz.func11, Tryz.ntmps11
      go_wp2_with fail
      generalize World.alloc (World.alloc (World.alloc (World.alloc (World.alloc w _) _) _) _) _ = W0 at *
      have p_0 := kc.cell 0
      simp at p_0
      go_step3
      go_wp2_with (first | (refine wpList_load_row rfl 36 (.tmp 3) rfl w.heap.size rfl 36 (suC x) (0, 0) _ kx Tryz.underlying36 rfl (infoSu _) ?_) | ((refine wpList_store_row rfl 36 (.tmp 6) (.tmp 10) rfl (w.heap.size + 1 + 1 + 1) (suC x) rfl rfl 36 _ ky (infoSu _) rfl (oneSu _) ?_; replace kx := kx.rowOther (w.heap.size + 1 + 1 + 1) (by omega) (suC x); replace kc := kc.rowOther (w.heap.size + 1 + 1 + 1) (by omega) (suC x); replace kp := kp.rowOther (w.heap.size + 1 + 1 + 1) (by omega) (suC x); replace ke := ke.rowOther (w.heap.size + 1 + 1 + 1) (by omega) (suC x); replace B0 := bel_row B0 (w.heap.size + 1 + 1 + 1) (by omega) (suC x); replace hN := hN; have ky1 := ky.row (suC x); clear ky; generalize World.setRow W0 _ _ = W1 at *; have x_11 := kx.cell 11; have c_0 := kc.cell 0; simp at x_11 c_0)))
      go_step3
      have x_5 := kx.cell 5
      have x_6 := kx.cell 6
      have x_7 := kx.cell 7
      have x_8 := kx.cell 8
      have x_9 := kx.cell 9
      have x_10 := kx.cell 10
      have c_1 := kc.cell 1
      have c_2 := kc.cell 2
      have c_3 := kc.cell 3
      simp at x_5 x_6 x_7 x_8 x_9 x_10 c_1 c_2 c_3
      go_wp2_with (first | ((with_reducible refine (hD _).mono ?_); rintro e w4 ⟨rfl, q4⟩; have kx4 := kx.below q4 kx.lt; have kp4 := kp.below q4 kp.lt; have ky4 := ky1.below q4 ky1.lt; have ke4 := ke.below q4 ke.lt; have B4 := bthen B0 q4; have v_5 := kx4.cell 5; have v_6 := kx4.cell 6; have v_7 := kx4.cell 7; have v_8 := kx4.cell 8; have v_9 := kx4.cell 9; have v_10 := kx4.cell 10; simp at v_5 v_6 v_7 v_8 v_9 v_10; have l4 := kx4.lt; have e4_0 := ke4.cell 0; simp at e4_0; have l4e := ke4.lt; have g_0 := kp4.cell 0; have g_1 := kp4.cell 1; simp at g_0 g_1; have lp := kp4.lt; clear q4 kx kc kp ky1 ke B0) | (have ky5 := ky4.alloc (.cells (stC S) 32); have hW := write_any x hf S hSo cut mask hm _ (w.heap.size + 1 + 1 + 1) ky5 (by omega) (hN.below (B4.alloc B4.size (.cells (stC S) 32))); rw [hwr, hR] at hW; simp only [wrEnd, if_true, if_false, Bool.false_eq_true] at hW; refine hW.mono ?_; rintro e w6 ⟨rfl, ky6, t6⟩; have ky1 := ky6; have ke := t6.blk (ke4.alloc (.cells (stC S) 32)) (by omega); have B0 := t6.below (B4.alloc B4.size (.cells (stC S) 32)) (by omega); have e6_0 := ke.cell 0; simp at e6_0; clear ky6 t6 hW ky5) | (refine wpList_load_row rfl 36 (.tmp 6) rfl (w.heap.size + 1 + 1 + 1) rfl 36 (suC R) (0, 0) _ ky1 Tryz.underlying36 rfl (infoSu _) ?_) | (refine wpList_store_row rfl 36 (.tmp 6) (.tmp 47) rfl (w.heap.size + 1 + 1 + 1) (suC R) rfl rfl 36 _ ky1 (infoSu _) rfl (oneSu _) ?_; replace ke := ke.rowOther (w.heap.size + 1 + 1 + 1) (by omega) (suC R); replace B0 := bel_row B0 (w.heap.size + 1 + 1 + 1) (by omega) (suC R); replace ky1 := ky1.row (suC R); generalize World.setRow _ _ _ = W8 at *; have e_0 := ke.cell 0; have f_0 := ke.frozen 0; simp at e_0))
      refine leaves_cons (f := 24) (args := #[.pointer (some ⟨w.heap.size + 1 + 1 + 1 + 1, 0, none⟩)]) (by simp) (by simp [go_sem]) ?_
      refine (guard_idle ⟨w.heap.size + 1 + 1 + 1 + 1, 0, none⟩ _).mono ?_
      rintro e u' w9 ⟨rfl, rfl, rfl⟩
      have ke9 := ke.set 0 (.int .i64 0)
      have ky9 := ky1.other ⟨w.heap.size + 1 + 1 + 1 + 1, 0, none⟩ (by show w.heap.size + 1 + 1 + 1 ≠ w.heap.size + 1 + 1 + 1 + 1; omega) (.int .i64 0)
      have B9 := B0.setCell (p := ⟨w.heap.size + 1 + 1 + 1 + 1, 0, none⟩) (by simp; omega) (.int .i64 0)
      generalize World.setCell _ ⟨w.heap.size + 1 + 1 + 1 + 1, 0, none⟩ (.int .i64 0) = w3 at *
      have l9 := load_errno w3 ⟨w.heap.size + 1 + 1 + 1 + 1, 0, none⟩ 0 ((ke9.cell 0).trans (by simp))
      exact ⟨_, results_cell_cell rfl _ _ (w.heap.size + 1 + 1 + 1) 36 (suC R) (0, 0) _ ⟨w.heap.size + 1 + 1 + 1 + 1, 0, none⟩ _ rfl rfl ky9 Tryz.underlying36 rfl (infoSu _) l9, rfl, B9⟩
    ·
      go_enter_defers Tryz.func11, Tryz.ntmps11
      go_wp2_with fail
      generalize World.alloc (World.alloc (World.alloc (World.alloc (World.alloc w _) _) _) _) _ = W0 at *
      have p_0 := kc.cell 0
      simp at p_0
      go_step3
      go_wp2_with (first | (refine wpList_load_row rfl 36 (.tmp 3) rfl w.heap.size rfl 36 (suC x) (0, 0) _ kx Tryz.underlying36 rfl (infoSu _) ?_) | ((refine wpList_store_row rfl 36 (.tmp 6) (.tmp 10) rfl (w.heap.size + 1 + 1 + 1) (suC x) rfl rfl 36 _ ky (infoSu _) rfl (oneSu _) ?_; replace kx := kx.rowOther (w.heap.size + 1 + 1 + 1) (by omega) (suC x); replace kc := kc.rowOther (w.heap.size + 1 + 1 + 1) (by omega) (suC x); replace kp := kp.rowOther (w.heap.size + 1 + 1 + 1) (by omega) (suC x); replace ke := ke.rowOther (w.heap.size + 1 + 1 + 1) (by omega) (suC x); replace B0 := bel_row B0 (w.heap.size + 1 + 1 + 1) (by omega) (suC x); replace hN := hN; have ky1 := ky.row (suC x); clear ky; generalize World.setRow W0 _ _ = W1 at *; have x_11 := kx.cell 11; have c_0 := kc.cell 0; simp at x_11 c_0)))
      go_step3
      have x_5 := kx.cell 5
      have x_6 := kx.cell 6
      have x_7 := kx.cell 7
      have x_8 := kx.cell 8
      have x_9 := kx.cell 9
      have x_10 := kx.cell 10
      have c_1 := kc.cell 1
      have c_2 := kc.cell 2
      have c_3 := kc.cell 3
      simp at x_5 x_6 x_7 x_8 x_9 x_10 c_1 c_2 c_3
      go_wp2_with (first | ((with_reducible refine (hD _).mono ?_); rintro e w4 ⟨rfl, q4⟩; have kx4 := kx.below q4 kx.lt; have kp4 := kp.below q4 kp.lt; have ky4 := ky1.below q4 ky1.lt; have ke4 := ke.below q4 ke.lt; have B4 := bthen B0 q4; have v_5 := kx4.cell 5; have v_6 := kx4.cell 6; have v_7 := kx4.cell 7; have v_8 := kx4.cell 8; have v_9 := kx4.cell 9; have v_10 := kx4.cell 10; simp at v_5 v_6 v_7 v_8 v_9 v_10; have l4 := kx4.lt; have e4_0 := ke4.cell 0; simp at e4_0; have l4e := ke4.lt; have g_0 := kp4.cell 0; have g_1 := kp4.cell 1; simp at g_0 g_1; have lp := kp4.lt; clear q4 kx kc kp ky1 ke B0) | (have ky5 := ky4.alloc (.cells (stC S) 32); have hW := write_any x hf S hSo cut mask hm _ (w.heap.size + 1 + 1 + 1) ky5 (by omega) (hN.below (B4.alloc B4.size (.cells (stC S) 32))); rw [hwr, hR] at hW; simp only [wrEnd, if_true, if_false, Bool.false_eq_true] at hW; refine hW.mono ?_; rintro e w6 ⟨rfl, ky6, t6⟩; have ky1 := ky6; have ke := t6.blk (ke4.alloc (.cells (stC S) 32)) (by omega); have B0 := t6.below (B4.alloc B4.size (.cells (stC S) 32)) (by omega); have e6_0 := ke.cell 0; simp at e6_0; clear ky6 t6 hW ky5) | (refine wpList_load_row rfl 36 (.tmp 6) rfl (w.heap.size + 1 + 1 + 1) rfl 36 (suC R) (0, 0) _ ky1 Tryz.underlying36 rfl (infoSu _) ?_) | (refine wpList_store_row rfl 36 (.tmp 6) (.tmp 47) rfl (w.heap.size + 1 + 1 + 1) (suC R) rfl rfl 36 _ ky1 (infoSu _) rfl (oneSu _) ?_; replace ke := ke.rowOther (w.heap.size + 1 + 1 + 1) (by omega) (suC R); replace B0 := bel_row B0 (w.heap.size + 1 + 1 + 1) (by omega) (suC R); replace ky1 := ky1.row (suC R); generalize World.setRow _ _ _ = W8 at *; have e_0 := ke.cell 0; have f_0 := ke.frozen 0; simp at e_0))
      refine leaves_cons (f := 24) (args := #[.pointer (some ⟨w.heap.size + 1 + 1 + 1 + 1, 0, none⟩)]) (by simp) (by simp [go_sem]) ?_
      refine (guard_idle ⟨w.heap.size + 1 + 1 + 1 + 1, 0, none⟩ _).mono ?_
      rintro e u' w9 ⟨rfl, rfl, rfl⟩
      have ke9 := ke.set 0 (.int .i64 0)
      have ky9 := ky1.other ⟨w.heap.size + 1 + 1 + 1 + 1, 0, none⟩ (by show w.heap.size + 1 + 1 + 1 ≠ w.heap.size + 1 + 1 + 1 + 1; omega) (.int .i64 0)
      have B9 := B0.setCell (p := ⟨w.heap.size + 1 + 1 + 1 + 1, 0, none⟩) (by simp; omega) (.int .i64 0)
      generalize World.setCell _ ⟨w.heap.size + 1 + 1 + 1 + 1, 0, none⟩ (.int .i64 0) = w3 at *
      have l9 := load_errno w3 ⟨w.heap.size + 1 + 1 + 1 + 1, 0, none⟩ 0 ((ke9.cell 0).trans (by simp))
      exact ⟨_, results_cell_cell rfl _ _ (w.heap.size + 1 + 1 + 1) 36 (suC R) (0, 0) _ ⟨w.heap.size + 1 + 1 + 1 + 1, 0, none⟩ _ rfl rfl ky9 Tryz.underlying36 rfl (infoSu _) l9, rfl, B9⟩
  case false =>
    by_cases h0 : x.ph = 0
    · obtain ⟨k1, k2, k3⟩ := hk h0
      go_enter_defers Tryz.func11, Tryz.ntmps11
      go_wp2_with fail
      generalize World.alloc (World.alloc (World.alloc (World.alloc (World.alloc w _) _) _) _) _ = W0 at *
      have p_0 := kc.cell 0
      simp at p_0
      go_step3
      go_wp2_with (first | (refine wpList_load_row rfl 36 (.tmp 3) rfl w.heap.size rfl 36 (suC x) (0, 0) _ kx Tryz.underlying36 rfl (infoSu _) ?_) | ((refine wpList_store_row rfl 36 (.tmp 6) (.tmp 10) rfl (w.heap.size + 1 + 1 + 1) (suC x) rfl rfl 36 _ ky (infoSu _) rfl (oneSu _) ?_; replace kx := kx.rowOther (w.heap.size + 1 + 1 + 1) (by omega) (suC x); replace kc := kc.rowOther (w.heap.size + 1 + 1 + 1) (by omega) (suC x); replace kp := kp.rowOther (w.heap.size + 1 + 1 + 1) (by omega) (suC x); replace ke := ke.rowOther (w.heap.size + 1 + 1 + 1) (by omega) (suC x); replace B0 := bel_row B0 (w.heap.size + 1 + 1 + 1) (by omega) (suC x); replace hN := hN; have ky1 := ky.row (suC x); clear ky; generalize World.setRow W0 _ _ = W1 at *; have x_11 := kx.cell 11; have c_0 := kc.cell 0; simp at x_11 c_0)))
      go_step3
      have x_5 := kx.cell 5
      have x_6 := kx.cell 6
      have x_7 := kx.cell 7
      have x_8 := kx.cell 8
      have x_9 := kx.cell 9
      have x_10 := kx.cell 10
      have c_1 := kc.cell 1
      have c_2 := kc.cell 2
      have c_3 := kc.cell 3
      simp at x_5 x_6 x_7 x_8 x_9 x_10 c_1 c_2 c_3
      go_wp2_with (first | ((with_reducible refine (hD _).mono ?_); rintro e w4 ⟨rfl, q4⟩; have kx4 := kx.below q4 kx.lt; have kp4 := kp.below q4 kp.lt; have ky4 := ky1.below q4 ky1.lt; have ke4 := ke.below q4 ke.lt; have B4 := bthen B0 q4; have v_5 := kx4.cell 5; have v_6 := kx4.cell 6; have v_7 := kx4.cell 7; have v_8 := kx4.cell 8; have v_9 := kx4.cell 9; have v_10 := kx4.cell 10; simp at v_5 v_6 v_7 v_8 v_9 v_10; have l4 := kx4.lt; have e4_0 := ke4.cell 0; simp at e4_0; have l4e := ke4.lt; have g_0 := kp4.cell 0; have g_1 := kp4.cell 1; simp at g_0 g_1; have lp := kp4.lt; clear q4 kx kc kp ky1 ke B0) | (have ky5 := ky4.alloc (.cells (stC S) 32); have hW := write_any x hf S hSo cut mask hm _ (w.heap.size + 1 + 1 + 1) ky5 (by omega) (hN.below (B4.alloc B4.size (.cells (stC S) 32))); rw [hwr, hR] at hW; simp only [wrEnd, if_true, if_false, Bool.false_eq_true] at hW; refine hW.mono ?_; rintro e w6 ⟨rfl, ky6, t6⟩; have ky1 := ky6; have ke := t6.blk (ke4.alloc (.cells (stC S) 32)) (by omega); have B0 := t6.below (B4.alloc B4.size (.cells (stC S) 32)) (by omega); have e6_0 := ke.cell 0; simp at e6_0; clear ky6 t6 hW ky5))
      refine leaves_cons (f := 24) (args := #[.pointer (some ⟨w.heap.size + 1 + 1 + 1 + 1, 0, none⟩)]) (by simp) (by simp [go_sem]) ?_
      refine (guard_panicking ⟨w.heap.size + 1 + 1 + 1 + 1, 0, none⟩ 0 26 [] _ (ke.cell 0) (ke.frozen 0) ke.lt).mono ?_
      rintro e u' w9 ⟨rfl, rfl, rfl⟩
      have ke9 := (ke.alloc (.cells #[.int .i64 26] 67)).set 0 (.int .i64 26)
      have ky9 := (ky1.alloc (.cells #[.int .i64 26] 67)).other ⟨w.heap.size + 1 + 1 + 1 + 1, 0, none⟩ (by show w.heap.size + 1 + 1 + 1 ≠ w.heap.size + 1 + 1 + 1 + 1; omega) (.int .i64 26)
      have B9 := (B0.alloc B0.size (.cells #[.int .i64 26] 67)).setCell (p := ⟨w.heap.size + 1 + 1 + 1 + 1, 0, none⟩) (by simp; omega) (.int .i64 26)
      generalize World.setCell _ ⟨w.heap.size + 1 + 1 + 1 + 1, 0, none⟩ (.int .i64 26) = w3 at *
      have l9 := load_errno w3 ⟨w.heap.size + 1 + 1 + 1 + 1, 0, none⟩ 26 ((ke9.cell 0).trans (by simp))
      exact ⟨_, results_cell_cell rfl _ _ (w.heap.size + 1 + 1 + 1) 36 (suC R) (0, 0) _ ⟨w.heap.size + 1 + 1 + 1 + 1, 0, none⟩ _ rfl rfl ky9 Tryz.underlying36 rfl (infoSu _) l9, rfl, B9⟩
    ·
      go_enter_defers Tryz.func11, Tryz.ntmps11
      go_wp2_with fail
      generalize World.alloc (World.alloc (World.alloc (World.alloc (World.alloc w _) _) _) _) _ = W0 at *
      have p_0 := kc.cell 0
      simp at p_0
      go_step3
      go_wp2_with (first | (refine wpList_load_row rfl 36 (.tmp 3) rfl w.heap.size rfl 36 (suC x) (0, 0) _ kx Tryz.underlying36 rfl (infoSu _) ?_) | ((refine wpList_store_row rfl 36 (.tmp 6) (.tmp 10) rfl (w.heap.size + 1 + 1 + 1) (suC x) rfl rfl 36 _ ky (infoSu _) rfl (oneSu _) ?_; replace kx := kx.rowOther (w.heap.size + 1 + 1 + 1) (by omega) (suC x); replace kc := kc.rowOther (w.heap.size + 1 + 1 + 1) (by omega) (suC x); replace kp := kp.rowOther (w.heap.size + 1 + 1 + 1) (by omega) (suC x); replace ke := ke.rowOther (w.heap.size + 1 + 1 + 1) (by omega) (suC x); replace B0 := bel_row B0 (w.heap.size + 1 + 1 + 1) (by omega) (suC x); replace hN := hN; have ky1 := ky.row (suC x); clear ky; generalize World.setRow W0 _ _ = W1 at *; have x_11 := kx.cell 11; have c_0 := kc.cell 0; simp at x_11 c_0)))
      go_step3
      have x_5 := kx.cell 5
      have x_6 := kx.cell 6
      have x_7 := kx.cell 7
      have x_8 := kx.cell 8
      have x_9 := kx.cell 9
      have x_10 := kx.cell 10
      have c_1 := kc.cell 1
      have c_2 := kc.cell 2
      have c_3 := kc.cell 3
      simp at x_5 x_6 x_7 x_8 x_9 x_10 c_1 c_2 c_3
      go_wp2_with (first | ((with_reducible refine (hD _).mono ?_); rintro e w4 ⟨rfl, q4⟩; have kx4 := kx.below q4 kx.lt; have kp4 := kp.below q4 kp.lt; have ky4 := ky1.below q4 ky1.lt; have ke4 := ke.below q4 ke.lt; have B4 := bthen B0 q4; have v_5 := kx4.cell 5; have v_6 := kx4.cell 6; have v_7 := kx4.cell 7; have v_8 := kx4.cell 8; have v_9 := kx4.cell 9; have v_10 := kx4.cell 10; simp at v_5 v_6 v_7 v_8 v_9 v_10; have l4 := kx4.lt; have e4_0 := ke4.cell 0; simp at e4_0; have l4e := ke4.lt; have g_0 := kp4.cell 0; have g_1 := kp4.cell 1; simp at g_0 g_1; have lp := kp4.lt; clear q4 kx kc kp ky1 ke B0) | (have ky5 := ky4.alloc (.cells (stC S) 32); have hW := write_any x hf S hSo cut mask hm _ (w.heap.size + 1 + 1 + 1) ky5 (by omega) (hN.below (B4.alloc B4.size (.cells (stC S) 32))); rw [hwr, hR] at hW; simp only [wrEnd, if_true, if_false, Bool.false_eq_true] at hW; refine hW.mono ?_; rintro e w6 ⟨rfl, ky6, t6⟩; have ky1 := ky6; have ke := t6.blk (ke4.alloc (.cells (stC S) 32)) (by omega); have B0 := t6.below (B4.alloc B4.size (.cells (stC S) 32)) (by omega); have e6_0 := ke.cell 0; simp at e6_0; clear ky6 t6 hW ky5))
      refine leaves_cons (f := 24) (args := #[.pointer (some ⟨w.heap.size + 1 + 1 + 1 + 1, 0, none⟩)]) (by simp) (by simp [go_sem]) ?_
      refine (guard_panicking ⟨w.heap.size + 1 + 1 + 1 + 1, 0, none⟩ 0 26 [] _ (ke.cell 0) (ke.frozen 0) ke.lt).mono ?_
      rintro e u' w9 ⟨rfl, rfl, rfl⟩
      have ke9 := (ke.alloc (.cells #[.int .i64 26] 67)).set 0 (.int .i64 26)
      have ky9 := (ky1.alloc (.cells #[.int .i64 26] 67)).other ⟨w.heap.size + 1 + 1 + 1 + 1, 0, none⟩ (by show w.heap.size + 1 + 1 + 1 ≠ w.heap.size + 1 + 1 + 1 + 1; omega) (.int .i64 26)
      have B9 := (B0.alloc B0.size (.cells #[.int .i64 26] 67)).setCell (p := ⟨w.heap.size + 1 + 1 + 1 + 1, 0, none⟩) (by simp; omega) (.int .i64 26)
      generalize World.setCell _ ⟨w.heap.size + 1 + 1 + 1 + 1, 0, none⟩ (.int .i64 26) = w3 at *
      have l9 := load_errno w3 ⟨w.heap.size + 1 + 1 + 1 + 1, 0, none⟩ 26 ((ke9.cell 0).trans (by simp))
      exact ⟨_, results_cell_cell rfl _ _ (w.heap.size + 1 + 1 + 1) 36 (suC R) (0, 0) _ ⟨w.heap.size + 1 + 1 + 1 + 1, 0, none⟩ _ rfl rfl ky9 Tryz.underlying36 rfl (infoSu _) l9, rfl, B9⟩

theorem Command_any (x : Su) (hf : x.f.ok) (h16 : 0 ≤ x.s.iso ∧ x.s.iso < 16) (c : Cm) (hc : c.ok) (ht : (deltaS x.s c).ok) (cut : Int) (mask : ByteArray) (hm : mask.size ≤ 1000) (w : World) (hN : NoneG w) :
    Calls Tryz.prog 11 #[suV x, cmV c, .agg #[.int .i64 cut, .string mask]] w (CmdPost w (cmdX x c cut mask) (cmdE x c cut mask)) := by
  by_cases h : x.ph = 2 ∨ x.ph = 3
  · have e1 : cmdX x c cut mask = x := by unfold cmdX; rw [if_pos h]
    have e2 : cmdE x c cut mask = 26 := by unfold cmdE; rw [if_pos h]
    rw [e1, e2]; exact cmd_off x c cut mask w hN h
  · have h2 : ¬ x.ph = 2 := fun e => h (.inl e)
    have h3 : ¬ x.ph = 3 := fun e => h (.inr e)
    cases hh : heldB x c
    case true =>
      have e1 : cmdX x c cut mask = x := by unfold cmdX; rw [if_neg h, if_pos hh]
      have e2 : cmdE x c cut mask = 25 := by unfold cmdE; rw [if_neg h, if_pos hh]
      rw [e1, e2]
      unfold heldB at hh
      obtain ⟨p1, p2, p3⟩ := of_decide_eq_true hh
      exact cmd_held x c cut mask w hN p1 (by omega)
    case false =>
      have hk : x.ph = 0 → ¬ c.kind = 1 ∧ ¬ c.kind = 2 ∧ ¬ c.kind = 3 := by
        intro p1
        unfold heldB at hh
        have := of_decide_eq_false hh
        omega
      have hD := fun W => cDelta_any x.s h16 c hc W
      have hb : ¬ heldB x c = true := by rw [hh]; simp
      by_cases h0 : deltaE x.s c = 0
      · have hn : ¬ deltaE x.s c ≠ 0 := by simpa using h0
        have hD0 : ∀ W, Calls Tryz.prog 25 #[stV x.s, cmV c] W (DPost W (deltaS x.s c) 0) := by rw [← h0]; exact hD
        cases hq : eqSt (deltaS x.s c) x.s
        case true =>
          have e1 : cmdX x c cut mask = x := by unfold cmdX; rw [if_neg h, if_neg hb, if_neg hn, if_pos hq]
          have e2 : cmdE x c cut mask = 0 := by unfold cmdE; rw [if_neg h, if_neg hb, if_neg hn, if_pos hq]
          rw [e1, e2]
          exact cmd_same x c _ hD0 hq cut mask w hN h2 h3 hk
        case false =>
          have hqn : ¬ eqSt (deltaS x.s c) x.s = true := by rw [hq]; simp
          have e1 : cmdX x c cut mask = wrX x (deltaS x.s c) cut mask := by unfold cmdX; rw [if_neg h, if_neg hb, if_neg hn, if_neg hqn]
          have e2 : cmdE x c cut mask = if wrE x (deltaS x.s c) cut mask then 0 else 26 := by unfold cmdE; rw [if_neg h, if_neg hb, if_neg hn, if_neg hqn]
          rw [e1, e2]
          exact cmd_wrote x hf c _ ht hD0 hq cut mask hm _ rfl _ rfl w hN h2 h3 hk
      · have e1 : cmdX x c cut mask = x := by unfold cmdX; rw [if_neg h, if_neg hb, if_pos h0]
        have e2 : cmdE x c cut mask = deltaE x.s c := by unfold cmdE; rw [if_neg h, if_neg hb, if_pos h0]
        rw [e1, e2]
        exact cmd_err x c _ _ hD h0 cut mask w hN h2 h3 hk
end Go.Proofs.YtebkeocpojlepaaGreatDoor

/- super.Sample. -/
namespace Go.Proofs.YtebkeocpojlepaaGreatDoor
open Go.RowKit
set_option linter.unusedVariables false
set_option linter.unusedSimpArgs false

/-- a supervisor with a vote added -/
def votX (x : Su) (v : Int) : Su := { x with vv := v, vn := agreeI x.vv x.vn v }
def moreB (x : Su) (v : Int) : Bool := !eqSt (resolveS x.s v) x.s || !keptB x
def smpX (x : Su) (v cut : Int) (mask : ByteArray) : Su :=
  if x.ph = 3 then x else if x.ph ≠ 0 ∨ agreeI x.vv x.vn v < 3 then votX x v else
  if moreB x v = false then { votX x v with ph := 1 } else if wrE (votX x v) (resolveS x.s v) cut mask then { wrX (votX x v) (resolveS x.s v) cut mask with ph := 1 } else wrX (votX x v) (resolveS x.s v) cut mask
def smpE (x : Su) (v cut : Int) (mask : ByteArray) : Int :=
  if x.ph = 3 then 26 else if x.ph ≠ 0 ∨ agreeI x.vv x.vn v < 3 then 0 else if moreB x v = false then 0 else if wrE (votX x v) (resolveS x.s v) cut mask then 0 else 26

set_option maxRecDepth 100000 in
set_option maxHeartbeats 4000000 in
theorem smp_off (x : Su) (a s t : Nat) (cut : Int) (mask : ByteArray) (w : World) (h : x.ph = 3) :
    Calls Tryz.prog 30 #[suV x, saV a s t, .agg #[.int .i64 cut, .string mask]] w (CmdPost w x 26) := by
  have hN : True := trivial
  have kx := ((((Blk.new w 36 (suC x)).alloc (.cells (saC a s t) 53)).alloc (.cells #[.int .i64 cut, .string mask] 48)).alloc (.cells suZ 36)).alloc (.cells #[.int .i64 0] 40)
  have kc := (((Blk.new (w.alloc (.cells (suC x) 36)) 53 (saC a s t)).alloc (.cells #[.int .i64 cut, .string mask] 48)).alloc (.cells suZ 36)).alloc (.cells #[.int .i64 0] 40)
  have kp := ((Blk.new ((w.alloc (.cells (suC x) 36)).alloc (.cells (saC a s t) 53)) 48 #[.int .i64 cut, .string mask]).alloc (.cells suZ 36)).alloc (.cells #[.int .i64 0] 40)
  have ky := (Blk.new (((w.alloc (.cells (suC x) 36)).alloc (.cells (saC a s t) 53)).alloc (.cells #[.int .i64 cut, .string mask] 48)) 36 suZ).alloc (.cells #[.int .i64 0] 40)
  have ke := Blk.new ((((w.alloc (.cells (suC x) 36)).alloc (.cells (saC a s t) 53)).alloc (.cells #[.int .i64 cut, .string mask] 48)).alloc (.cells suZ 36)) 40 #[.int .i64 0]
  have B0 : Below w.heap.size w (((((w.alloc (.cells (suC x) 36)).alloc (.cells (saC a s t) 53)).alloc (.cells #[.int .i64 cut, .string mask] 48)).alloc (.cells suZ 36)).alloc (.cells #[.int .i64 0] 40)) := (((((Below.refl _ w).alloc (Nat.le_refl _) _).alloc (by simp) _).alloc (by simp; omega) _).alloc (by simp; omega) _).alloc (by simp; omega) _
  simp only [World.size_alloc] at kc kp ky ke
  go_enter_defers Tryz.func30, Tryz.ntmps30
  go_wp2_with (first | (refine wpList_load_row rfl 36 (.tmp 3) rfl w.heap.size rfl 36 (suC x) (0, 0) _ kx Tryz.underlying36 rfl (infoSu _) ?_) | ((refine wpList_store_row rfl 36 (.tmp 6) (.tmp 10) rfl (w.heap.size + 1 + 1 + 1) (suC x) rfl rfl 36 _ ky (infoSu _) rfl (oneSu _) ?_; replace kx := kx.rowOther (w.heap.size + 1 + 1 + 1) (by omega) (suC x); replace kc := kc.rowOther (w.heap.size + 1 + 1 + 1) (by omega) (suC x); replace kp := kp.rowOther (w.heap.size + 1 + 1 + 1) (by omega) (suC x); replace ke := ke.rowOther (w.heap.size + 1 + 1 + 1) (by omega) (suC x); replace B0 := bel_row B0 (w.heap.size + 1 + 1 + 1) (by omega) (suC x); have ky1 := ky.row (suC x); clear ky; generalize World.setRow _ _ _ = W1 at *; have x_11 := kx.cell 11; simp at x_11); rw [h] at x_11))
  refine leaves_cons (f := 24) (args := #[.pointer (some ⟨w.heap.size + 1 + 1 + 1 + 1, 0, none⟩)]) (by simp) (by simp [go_sem]) ?_
  refine (guard_panicking ⟨w.heap.size + 1 + 1 + 1 + 1, 0, none⟩ 0 26 [] _ (ke.cell 0) (ke.frozen 0) ke.lt).mono ?_
  rintro e u' w9 ⟨rfl, rfl, rfl⟩
  have ke9 := (ke.alloc (.cells #[.int .i64 26] 67)).set 0 (.int .i64 26)
  have ky9 := (ky1.alloc (.cells #[.int .i64 26] 67)).other ⟨w.heap.size + 1 + 1 + 1 + 1, 0, none⟩ (by show w.heap.size + 1 + 1 + 1 ≠ w.heap.size + 1 + 1 + 1 + 1; omega) (.int .i64 26)
  have B9 := (B0.alloc B0.size (.cells #[.int .i64 26] 67)).setCell (p := ⟨w.heap.size + 1 + 1 + 1 + 1, 0, none⟩) (by simp; omega) (.int .i64 26)
  generalize World.setCell _ ⟨w.heap.size + 1 + 1 + 1 + 1, 0, none⟩ (.int .i64 26) = w3 at *
  have l9 := load_errno w3 ⟨w.heap.size + 1 + 1 + 1 + 1, 0, none⟩ 26 ((ke9.cell 0).trans (by simp))
  exact ⟨_, results_cell_cell rfl _ _ (w.heap.size + 1 + 1 + 1) 36 (suC x) (0, 0) _ ⟨w.heap.size + 1 + 1 + 1 + 1, 0, none⟩ _ rfl rfl ky9 Tryz.underlying36 rfl (infoSu _) l9, rfl, B9⟩

set_option maxRecDepth 100000 in
set_option maxHeartbeats 4000000 in
theorem smp_early (x : Su) (a s t : Nat) (v nv : Int) (hV : ∀ W, Calls Tryz.prog 47 #[saV a s t] W fun e w' => e = .returned (.int .i64 v) ∧ Below W.heap.size W w')
    (hA : ∀ W, Calls Tryz.prog 46 #[.agg #[.int .i64 x.vv, .int .i64 x.vn], .int .i64 v] W fun e w' => e = .returned (.agg #[.int .i64 v, .int .i64 nv]) ∧ Below W.heap.size W w')
    (d : Int) (hD : ∀ W, Calls Tryz.prog 48 #[.agg #[.int .i64 v, .int .i64 nv]] W fun e w' => e = .returned (.int .i64 d) ∧ Below W.heap.size W w')
    (cut : Int) (mask : ByteArray) (w : World) (h3 : ¬ x.ph = 3) (hd : x.ph ≠ 0 ∨ x.ph = 0 ∧ d = 0) :
    Calls Tryz.prog 30 #[suV x, saV a s t, .agg #[.int .i64 cut, .string mask]] w (CmdPost w ⟨x.f, x.s, x.ph, v, nv⟩ 0) := by
  rcases hd with hd | ⟨hd, rfl⟩
  · have hd2 : (x.ph != 0) = true := by simpa using hd
    have kx := ((((Blk.new w 36 (suC x)).alloc (.cells (saC a s t) 53)).alloc (.cells #[.int .i64 cut, .string mask] 48)).alloc (.cells suZ 36)).alloc (.cells #[.int .i64 0] 40)
    have kc := (((Blk.new (w.alloc (.cells (suC x) 36)) 53 (saC a s t)).alloc (.cells #[.int .i64 cut, .string mask] 48)).alloc (.cells suZ 36)).alloc (.cells #[.int .i64 0] 40)
    have kp := ((Blk.new ((w.alloc (.cells (suC x) 36)).alloc (.cells (saC a s t) 53)) 48 #[.int .i64 cut, .string mask]).alloc (.cells suZ 36)).alloc (.cells #[.int .i64 0] 40)
    have ky := (Blk.new (((w.alloc (.cells (suC x) 36)).alloc (.cells (saC a s t) 53)).alloc (.cells #[.int .i64 cut, .string mask] 48)) 36 suZ).alloc (.cells #[.int .i64 0] 40)
    have ke := Blk.new ((((w.alloc (.cells (suC x) 36)).alloc (.cells (saC a s t) 53)).alloc (.cells #[.int .i64 cut, .string mask] 48)).alloc (.cells suZ 36)) 40 #[.int .i64 0]
    have B0 : Below w.heap.size w (((((w.alloc (.cells (suC x) 36)).alloc (.cells (saC a s t) 53)).alloc (.cells #[.int .i64 cut, .string mask] 48)).alloc (.cells suZ 36)).alloc (.cells #[.int .i64 0] 40)) := (((((Below.refl _ w).alloc (Nat.le_refl _) _).alloc (by simp) _).alloc (by simp; omega) _).alloc (by simp; omega) _).alloc (by simp; omega) _
    simp only [World.size_alloc] at kc kp ky ke
    go_enter_defers Tryz.func30, Tryz.ntmps30
    go_wp2_with (first | (refine wpList_load_row rfl 36 (.tmp 3) rfl w.heap.size rfl 36 (suC x) (0, 0) _ kx Tryz.underlying36 rfl (infoSu _) ?_) | (refine wpList_store_row rfl 36 (.tmp 6) (.tmp 10) rfl (w.heap.size + 1 + 1 + 1) (suC x) rfl rfl 36 _ ky (infoSu _) rfl (oneSu _) ?_; replace kx := kx.rowOther (w.heap.size + 1 + 1 + 1) (by omega) (suC x); replace kc := kc.rowOther (w.heap.size + 1 + 1 + 1) (by omega) (suC x); replace kp := kp.rowOther (w.heap.size + 1 + 1 + 1) (by omega) (suC x); replace ke := ke.rowOther (w.heap.size + 1 + 1 + 1) (by omega) (suC x); replace B0 := bel_row B0 (w.heap.size + 1 + 1 + 1) (by omega) (suC x); have ky1 := ky.row (suC x); clear ky; generalize World.setRow _ _ _ = W1 at *; have x_11 := kx.cell 11; simp at x_11))
    have q_12 : ∀ n : CalmW W1.heap.size W1, n.val.cell? ⟨w.heap.size, 12, none⟩ = some (.int .i64 x.vv) := fun n => ((kx.below n.below kx.lt).cell 12).trans (by simp)
    have q_13 : ∀ n : CalmW W1.heap.size W1, n.val.cell? ⟨w.heap.size, 13, none⟩ = some (.int .i64 x.vn) := fun n => ((kx.below n.below kx.lt).cell 13).trans (by simp)
    have r_0 : ∀ n : CalmW W1.heap.size W1, n.val.cell? ⟨w.heap.size + 1, 0, none⟩ = some (.float .f64 a) := fun n => ((kc.below n.below kc.lt).cell 0).trans (by simp)
    have r_1 : ∀ n : CalmW W1.heap.size W1, n.val.cell? ⟨w.heap.size + 1, 1, none⟩ = some (.float .f64 s) := fun n => ((kc.below n.below kc.lt).cell 1).trans (by simp)
    have r_2 : ∀ n : CalmW W1.heap.size W1, n.val.cell? ⟨w.heap.size + 1, 2, none⟩ = some (.float .f64 t) := fun n => ((kc.below n.below kc.lt).cell 2).trans (by simp)
    refine wp_region_calm_head W1.heap.size 6 1 #[true, true, true, true, true, true, false] (by kernel_rfl) (by kernel_rfl) rfl ?_
    simp only [List.take_succ_cons, List.take_zero]
    repeat (go_big_quiet_step (first | (with_reducible refine calm_of (Nat.le_refl _) (hV _)) | (with_reducible refine calm_of (Nat.le_refl _) (hA _))))
    refine wpQuiet_nil ?_
    intro W4 hw4
    obtain ⟨⟨W5, b4⟩, hw5⟩ := hw4
    obtain rfl : W4 = W5 := hw5
    clear q_12 q_13 r_0 r_1 r_2
    have kx4 := kx.below b4 kx.lt
    have kp4 := kp.below b4 kp.lt
    have ky4 := ky1.below b4 ky1.lt
    have ke4 := ke.below b4 ke.lt
    have B4 := bthen B0 b4
    clear kx kp ky1 ke B0 b4 kc x_11
    have s_12 := ky4.cell 12
    have s_13 := ky4.cell 13
    have f_12 := ky4.frozen 12
    have f_13 := ky4.frozen 13
    simp at s_12 s_13
    refine wpAny_ready (rs := [6]) (by kernel_rfl) (by simp) ?_
    refine AllReady.cons rfl (fun K hK => ?_) AllReady.nil
    go_simp
    refine hK _ _ ?_
    clear hK K
    refine wpAny_done (by kernel_rfl) ?_ _
    have ky : Blk ((W4.setCell ⟨w.heap.size + 1 + 1 + 1, 12, none⟩ (.int .i64 v)).setCell ⟨w.heap.size + 1 + 1 + 1, 13, none⟩ (.int .i64 nv)) (w.heap.size + 1 + 1 + 1) 36 (suC ⟨x.f, x.s, x.ph, v, nv⟩) := by simpa using (ky4.set 12 (.int .i64 v)).set 13 (.int .i64 nv)
    have kx := (kx4.other ⟨w.heap.size + 1 + 1 + 1, 12, none⟩ (by show w.heap.size ≠ w.heap.size + 1 + 1 + 1; omega) (.int .i64 v)).other ⟨w.heap.size + 1 + 1 + 1, 13, none⟩ (by show w.heap.size ≠ w.heap.size + 1 + 1 + 1; omega) (.int .i64 nv)
    have kp := (kp4.other ⟨w.heap.size + 1 + 1 + 1, 12, none⟩ (by show w.heap.size + 1 + 1 ≠ w.heap.size + 1 + 1 + 1; omega) (.int .i64 v)).other ⟨w.heap.size + 1 + 1 + 1, 13, none⟩ (by show w.heap.size + 1 + 1 ≠ w.heap.size + 1 + 1 + 1; omega) (.int .i64 nv)
    have ke := (ke4.other ⟨w.heap.size + 1 + 1 + 1, 12, none⟩ (by show w.heap.size + 1 + 1 + 1 + 1 ≠ w.heap.size + 1 + 1 + 1; omega) (.int .i64 v)).other ⟨w.heap.size + 1 + 1 + 1, 13, none⟩ (by show w.heap.size + 1 + 1 + 1 + 1 ≠ w.heap.size + 1 + 1 + 1; omega) (.int .i64 nv)
    have B0 := (B4.setCell (p := ⟨w.heap.size + 1 + 1 + 1, 12, none⟩) (by show w.heap.size ≤ w.heap.size + 1 + 1 + 1; omega) (.int .i64 v)).setCell (p := ⟨w.heap.size + 1 + 1 + 1, 13, none⟩) (by show w.heap.size ≤ w.heap.size + 1 + 1 + 1; omega) (.int .i64 nv)
    clear kx4 kp4 ky4 ke4 B4 s_12 s_13 f_12 f_13
    generalize World.setCell (World.setCell W4 _ _) _ _ = W6 at *
    have s_12 := ky.cell 12
    have s_13 := ky.cell 13
    have x_11 := kx.cell 11
    simp at s_12 s_13 x_11
    go_wp2_with (first | ((with_reducible refine (hD _).mono ?_); rintro e w7 ⟨rfl, q7⟩; have kx7 := kx.below q7 kx.lt; have kp7 := kp.below q7 kp.lt; have ky1 := ky.below q7 ky.lt; have ke7 := ke.below q7 ke.lt; have B7 := bthen B0 q7; clear kx kp ky B0 ke; have ke := ke7; have B0 := B7; clear ke7 B7 q7; have x_11 := kx7.cell 11; have e_0 := ke.cell 0; simp at x_11 e_0) | (refine wpList_load_row rfl 36 (.tmp 6) rfl (w.heap.size + 1 + 1 + 1) rfl 36 (suC (⟨x.f, x.s, x.ph, v, nv⟩ : Su)) (0, 0) _ ky1 Tryz.underlying36 rfl (infoSu _) ?_) | (refine wpList_store_row rfl 36 (.tmp 6) (.tmp 32) rfl (w.heap.size + 1 + 1 + 1) (suC (⟨x.f, x.s, x.ph, v, nv⟩ : Su)) rfl rfl 36 _ ky1 (infoSu _) rfl (oneSu _) ?_; replace ke := ke.rowOther (w.heap.size + 1 + 1 + 1) (by omega) (suC (⟨x.f, x.s, x.ph, v, nv⟩ : Su)); replace B0 := bel_row B0 (w.heap.size + 1 + 1 + 1) (by omega) (suC (⟨x.f, x.s, x.ph, v, nv⟩ : Su)); replace ky1 := ky1.row (suC (⟨x.f, x.s, x.ph, v, nv⟩ : Su)); generalize World.setRow _ _ _ = W8 at *; have e_0 := ke.cell 0; have f_0 := ke.frozen 0; simp at e_0))
    refine leaves_cons (f := 24) (args := #[.pointer (some ⟨w.heap.size + 1 + 1 + 1 + 1, 0, none⟩)]) (by simp) (by simp [go_sem]) ?_
    refine (guard_idle ⟨w.heap.size + 1 + 1 + 1 + 1, 0, none⟩ _).mono ?_
    rintro e u' w9 ⟨rfl, rfl, rfl⟩
    have ke9 := ke.set 0 (.int .i64 0)
    have ky9 := ky1.other ⟨w.heap.size + 1 + 1 + 1 + 1, 0, none⟩ (by show w.heap.size + 1 + 1 + 1 ≠ w.heap.size + 1 + 1 + 1 + 1; omega) (.int .i64 0)
    have B9 := B0.setCell (p := ⟨w.heap.size + 1 + 1 + 1 + 1, 0, none⟩) (by simp; omega) (.int .i64 0)
    generalize World.setCell _ ⟨w.heap.size + 1 + 1 + 1 + 1, 0, none⟩ (.int .i64 0) = w3 at *
    have l9 := load_errno w3 ⟨w.heap.size + 1 + 1 + 1 + 1, 0, none⟩ 0 ((ke9.cell 0).trans (by simp))
    exact ⟨_, results_cell_cell rfl _ _ (w.heap.size + 1 + 1 + 1) 36 (suC (⟨x.f, x.s, x.ph, v, nv⟩ : Su)) (0, 0) _ ⟨w.heap.size + 1 + 1 + 1 + 1, 0, none⟩ _ rfl rfl ky9 Tryz.underlying36 rfl (infoSu _) l9, rfl, B9⟩
  · have HD := Lib.hid hd
    clear hd
    have kx := ((((Blk.new w 36 (suC x)).alloc (.cells (saC a s t) 53)).alloc (.cells #[.int .i64 cut, .string mask] 48)).alloc (.cells suZ 36)).alloc (.cells #[.int .i64 0] 40)
    have kc := (((Blk.new (w.alloc (.cells (suC x) 36)) 53 (saC a s t)).alloc (.cells #[.int .i64 cut, .string mask] 48)).alloc (.cells suZ 36)).alloc (.cells #[.int .i64 0] 40)
    have kp := ((Blk.new ((w.alloc (.cells (suC x) 36)).alloc (.cells (saC a s t) 53)) 48 #[.int .i64 cut, .string mask]).alloc (.cells suZ 36)).alloc (.cells #[.int .i64 0] 40)
    have ky := (Blk.new (((w.alloc (.cells (suC x) 36)).alloc (.cells (saC a s t) 53)).alloc (.cells #[.int .i64 cut, .string mask] 48)) 36 suZ).alloc (.cells #[.int .i64 0] 40)
    have ke := Blk.new ((((w.alloc (.cells (suC x) 36)).alloc (.cells (saC a s t) 53)).alloc (.cells #[.int .i64 cut, .string mask] 48)).alloc (.cells suZ 36)) 40 #[.int .i64 0]
    have B0 : Below w.heap.size w (((((w.alloc (.cells (suC x) 36)).alloc (.cells (saC a s t) 53)).alloc (.cells #[.int .i64 cut, .string mask] 48)).alloc (.cells suZ 36)).alloc (.cells #[.int .i64 0] 40)) := (((((Below.refl _ w).alloc (Nat.le_refl _) _).alloc (by simp) _).alloc (by simp; omega) _).alloc (by simp; omega) _).alloc (by simp; omega) _
    simp only [World.size_alloc] at kc kp ky ke
    go_enter_defers Tryz.func30, Tryz.ntmps30
    go_wp2_with (first | (refine wpList_load_row rfl 36 (.tmp 3) rfl w.heap.size rfl 36 (suC x) (0, 0) _ kx Tryz.underlying36 rfl (infoSu _) ?_) | (refine wpList_store_row rfl 36 (.tmp 6) (.tmp 10) rfl (w.heap.size + 1 + 1 + 1) (suC x) rfl rfl 36 _ ky (infoSu _) rfl (oneSu _) ?_; replace kx := kx.rowOther (w.heap.size + 1 + 1 + 1) (by omega) (suC x); replace kc := kc.rowOther (w.heap.size + 1 + 1 + 1) (by omega) (suC x); replace kp := kp.rowOther (w.heap.size + 1 + 1 + 1) (by omega) (suC x); replace ke := ke.rowOther (w.heap.size + 1 + 1 + 1) (by omega) (suC x); replace B0 := bel_row B0 (w.heap.size + 1 + 1 + 1) (by omega) (suC x); have ky1 := ky.row (suC x); clear ky; generalize World.setRow _ _ _ = W1 at *; have x_11 := kx.cell 11; simp at x_11))
    have q_12 : ∀ n : CalmW W1.heap.size W1, n.val.cell? ⟨w.heap.size, 12, none⟩ = some (.int .i64 x.vv) := fun n => ((kx.below n.below kx.lt).cell 12).trans (by simp)
    have q_13 : ∀ n : CalmW W1.heap.size W1, n.val.cell? ⟨w.heap.size, 13, none⟩ = some (.int .i64 x.vn) := fun n => ((kx.below n.below kx.lt).cell 13).trans (by simp)
    have r_0 : ∀ n : CalmW W1.heap.size W1, n.val.cell? ⟨w.heap.size + 1, 0, none⟩ = some (.float .f64 a) := fun n => ((kc.below n.below kc.lt).cell 0).trans (by simp)
    have r_1 : ∀ n : CalmW W1.heap.size W1, n.val.cell? ⟨w.heap.size + 1, 1, none⟩ = some (.float .f64 s) := fun n => ((kc.below n.below kc.lt).cell 1).trans (by simp)
    have r_2 : ∀ n : CalmW W1.heap.size W1, n.val.cell? ⟨w.heap.size + 1, 2, none⟩ = some (.float .f64 t) := fun n => ((kc.below n.below kc.lt).cell 2).trans (by simp)
    refine wp_region_calm_head W1.heap.size 6 1 #[true, true, true, true, true, true, false] (by kernel_rfl) (by kernel_rfl) rfl ?_
    simp only [List.take_succ_cons, List.take_zero]
    repeat (go_big_quiet_step (first | (with_reducible refine calm_of (Nat.le_refl _) (hV _)) | (with_reducible refine calm_of (Nat.le_refl _) (hA _))))
    refine wpQuiet_nil ?_
    intro W4 hw4
    obtain ⟨⟨W5, b4⟩, hw5⟩ := hw4
    obtain rfl : W4 = W5 := hw5
    clear q_12 q_13 r_0 r_1 r_2
    have kx4 := kx.below b4 kx.lt
    have kp4 := kp.below b4 kp.lt
    have ky4 := ky1.below b4 ky1.lt
    have ke4 := ke.below b4 ke.lt
    have B4 := bthen B0 b4
    clear kx kp ky1 ke B0 b4 kc x_11
    have s_12 := ky4.cell 12
    have s_13 := ky4.cell 13
    have f_12 := ky4.frozen 12
    have f_13 := ky4.frozen 13
    simp at s_12 s_13
    refine wpAny_ready (rs := [6]) (by kernel_rfl) (by simp) ?_
    refine AllReady.cons rfl (fun K hK => ?_) AllReady.nil
    go_simp
    refine hK _ _ ?_
    clear hK K
    refine wpAny_done (by kernel_rfl) ?_ _
    have ky : Blk ((W4.setCell ⟨w.heap.size + 1 + 1 + 1, 12, none⟩ (.int .i64 v)).setCell ⟨w.heap.size + 1 + 1 + 1, 13, none⟩ (.int .i64 nv)) (w.heap.size + 1 + 1 + 1) 36 (suC ⟨x.f, x.s, x.ph, v, nv⟩) := by simpa using (ky4.set 12 (.int .i64 v)).set 13 (.int .i64 nv)
    have kx := (kx4.other ⟨w.heap.size + 1 + 1 + 1, 12, none⟩ (by show w.heap.size ≠ w.heap.size + 1 + 1 + 1; omega) (.int .i64 v)).other ⟨w.heap.size + 1 + 1 + 1, 13, none⟩ (by show w.heap.size ≠ w.heap.size + 1 + 1 + 1; omega) (.int .i64 nv)
    have kp := (kp4.other ⟨w.heap.size + 1 + 1 + 1, 12, none⟩ (by show w.heap.size + 1 + 1 ≠ w.heap.size + 1 + 1 + 1; omega) (.int .i64 v)).other ⟨w.heap.size + 1 + 1 + 1, 13, none⟩ (by show w.heap.size + 1 + 1 ≠ w.heap.size + 1 + 1 + 1; omega) (.int .i64 nv)
    have ke := (ke4.other ⟨w.heap.size + 1 + 1 + 1, 12, none⟩ (by show w.heap.size + 1 + 1 + 1 + 1 ≠ w.heap.size + 1 + 1 + 1; omega) (.int .i64 v)).other ⟨w.heap.size + 1 + 1 + 1, 13, none⟩ (by show w.heap.size + 1 + 1 + 1 + 1 ≠ w.heap.size + 1 + 1 + 1; omega) (.int .i64 nv)
    have B0 := (B4.setCell (p := ⟨w.heap.size + 1 + 1 + 1, 12, none⟩) (by show w.heap.size ≤ w.heap.size + 1 + 1 + 1; omega) (.int .i64 v)).setCell (p := ⟨w.heap.size + 1 + 1 + 1, 13, none⟩) (by show w.heap.size ≤ w.heap.size + 1 + 1 + 1; omega) (.int .i64 nv)
    clear kx4 kp4 ky4 ke4 B4 s_12 s_13 f_12 f_13
    generalize World.setCell (World.setCell W4 _ _) _ _ = W6 at *
    have s_12 := ky.cell 12
    have s_13 := ky.cell 13
    have x_11 := kx.cell 11
    simp at s_12 s_13 x_11
    rw [HD.out] at x_11
    go_wp2_with (first | (((with_reducible refine (hD _).mono ?_); rintro e w7 ⟨rfl, q7⟩; have kx7 := kx.below q7 kx.lt; have kp7 := kp.below q7 kp.lt; have ky1 := ky.below q7 ky.lt; have ke7 := ke.below q7 ke.lt; have B7 := bthen B0 q7; clear kx kp ky B0 ke; have ke := ke7; have B0 := B7; clear ke7 B7 q7; have x_11 := kx7.cell 11; have e_0 := ke.cell 0; simp at x_11 e_0); rw [HD.out] at x_11) | (refine wpList_load_row rfl 36 (.tmp 6) rfl (w.heap.size + 1 + 1 + 1) rfl 36 (suC (⟨x.f, x.s, x.ph, v, nv⟩ : Su)) (0, 0) _ ky1 Tryz.underlying36 rfl (infoSu _) ?_) | (refine wpList_store_row rfl 36 (.tmp 6) (.tmp 32) rfl (w.heap.size + 1 + 1 + 1) (suC (⟨x.f, x.s, x.ph, v, nv⟩ : Su)) rfl rfl 36 _ ky1 (infoSu _) rfl (oneSu _) ?_; replace ke := ke.rowOther (w.heap.size + 1 + 1 + 1) (by omega) (suC (⟨x.f, x.s, x.ph, v, nv⟩ : Su)); replace B0 := bel_row B0 (w.heap.size + 1 + 1 + 1) (by omega) (suC (⟨x.f, x.s, x.ph, v, nv⟩ : Su)); replace ky1 := ky1.row (suC (⟨x.f, x.s, x.ph, v, nv⟩ : Su)); generalize World.setRow _ _ _ = W8 at *; have e_0 := ke.cell 0; have f_0 := ke.frozen 0; simp at e_0))
    refine leaves_cons (f := 24) (args := #[.pointer (some ⟨w.heap.size + 1 + 1 + 1 + 1, 0, none⟩)]) (by simp) (by simp [go_sem]) ?_
    refine (guard_idle ⟨w.heap.size + 1 + 1 + 1 + 1, 0, none⟩ _).mono ?_
    rintro e u' w9 ⟨rfl, rfl, rfl⟩
    have ke9 := ke.set 0 (.int .i64 0)
    have ky9 := ky1.other ⟨w.heap.size + 1 + 1 + 1 + 1, 0, none⟩ (by show w.heap.size + 1 + 1 + 1 ≠ w.heap.size + 1 + 1 + 1 + 1; omega) (.int .i64 0)
    have B9 := B0.setCell (p := ⟨w.heap.size + 1 + 1 + 1 + 1, 0, none⟩) (by simp; omega) (.int .i64 0)
    generalize World.setCell _ ⟨w.heap.size + 1 + 1 + 1 + 1, 0, none⟩ (.int .i64 0) = w3 at *
    have l9 := load_errno w3 ⟨w.heap.size + 1 + 1 + 1 + 1, 0, none⟩ 0 ((ke9.cell 0).trans (by simp))
    exact ⟨_, results_cell_cell rfl _ _ (w.heap.size + 1 + 1 + 1) 36 (suC (⟨x.f, x.s, x.ph, v, nv⟩ : Su)) (0, 0) _ ⟨w.heap.size + 1 + 1 + 1 + 1, 0, none⟩ _ rfl rfl ky9 Tryz.underlying36 rfl (infoSu _) l9, rfl, B9⟩

set_option maxRecDepth 100000 in
set_option maxHeartbeats 4000000 in
theorem smp_same (x : Su) (a s t : Nat) (v nv : Int) (hV : ∀ W, Calls Tryz.prog 47 #[saV a s t] W fun e w' => e = .returned (.int .i64 v) ∧ Below W.heap.size W w')
    (hA : ∀ W, Calls Tryz.prog 46 #[.agg #[.int .i64 x.vv, .int .i64 x.vn], .int .i64 v] W fun e w' => e = .returned (.agg #[.int .i64 v, .int .i64 nv]) ∧ Below W.heap.size W w')
    (hD : ∀ W, Calls Tryz.prog 48 #[.agg #[.int .i64 v, .int .i64 nv]] W fun e w' => e = .returned (.int .i64 v) ∧ Below W.heap.size W w') (hv0 : (v == 0) = false)
    (S : St) (hR : ∀ W, Calls Tryz.prog 49 #[stV x.s, .int .i64 v] W fun e w' => e = .returned (stV S) ∧ Below W.heap.size W w') (hS : eqSt S x.s = true)
    (hK : ∀ W, NoneG W → Calls Tryz.prog 50 #[suV x] W fun e w' => e = .returned (.bool true) ∧ Below W.heap.size W w')
    (cut : Int) (mask : ByteArray) (w : World) (hN : NoneG w) (hd : x.ph = 0) :
    Calls Tryz.prog 30 #[suV x, saV a s t, .agg #[.int .i64 cut, .string mask]] w (CmdPost w ⟨x.f, x.s, 1, v, nv⟩ 0) := by
  have hq := run_ne_st S x.s
  rw [hS, Bool.not_true] at hq
  have h3 : ¬ x.ph = 3 := by omega
  have HD := Lib.hid hd
  clear hd
  have kx := ((((Blk.new w 36 (suC x)).alloc (.cells (saC a s t) 53)).alloc (.cells #[.int .i64 cut, .string mask] 48)).alloc (.cells suZ 36)).alloc (.cells #[.int .i64 0] 40)
  have kc := (((Blk.new (w.alloc (.cells (suC x) 36)) 53 (saC a s t)).alloc (.cells #[.int .i64 cut, .string mask] 48)).alloc (.cells suZ 36)).alloc (.cells #[.int .i64 0] 40)
  have kp := ((Blk.new ((w.alloc (.cells (suC x) 36)).alloc (.cells (saC a s t) 53)) 48 #[.int .i64 cut, .string mask]).alloc (.cells suZ 36)).alloc (.cells #[.int .i64 0] 40)
  have ky := (Blk.new (((w.alloc (.cells (suC x) 36)).alloc (.cells (saC a s t) 53)).alloc (.cells #[.int .i64 cut, .string mask] 48)) 36 suZ).alloc (.cells #[.int .i64 0] 40)
  have ke := Blk.new ((((w.alloc (.cells (suC x) 36)).alloc (.cells (saC a s t) 53)).alloc (.cells #[.int .i64 cut, .string mask] 48)).alloc (.cells suZ 36)) 40 #[.int .i64 0]
  have B0 : Below w.heap.size w (((((w.alloc (.cells (suC x) 36)).alloc (.cells (saC a s t) 53)).alloc (.cells #[.int .i64 cut, .string mask] 48)).alloc (.cells suZ 36)).alloc (.cells #[.int .i64 0] 40)) := (((((Below.refl _ w).alloc (Nat.le_refl _) _).alloc (by simp) _).alloc (by simp; omega) _).alloc (by simp; omega) _).alloc (by simp; omega) _
  simp only [World.size_alloc] at kc kp ky ke
  go_enter_defers Tryz.func30, Tryz.ntmps30
  go_wp2_with (first | (refine wpList_load_row rfl 36 (.tmp 3) rfl w.heap.size rfl 36 (suC x) (0, 0) _ kx Tryz.underlying36 rfl (infoSu _) ?_) | (refine wpList_store_row rfl 36 (.tmp 6) (.tmp 10) rfl (w.heap.size + 1 + 1 + 1) (suC x) rfl rfl 36 _ ky (infoSu _) rfl (oneSu _) ?_; replace kx := kx.rowOther (w.heap.size + 1 + 1 + 1) (by omega) (suC x); replace kc := kc.rowOther (w.heap.size + 1 + 1 + 1) (by omega) (suC x); replace kp := kp.rowOther (w.heap.size + 1 + 1 + 1) (by omega) (suC x); replace ke := ke.rowOther (w.heap.size + 1 + 1 + 1) (by omega) (suC x); replace B0 := bel_row B0 (w.heap.size + 1 + 1 + 1) (by omega) (suC x); have ky1 := ky.row (suC x); clear ky; generalize World.setRow _ _ _ = W1 at *; have x_11 := kx.cell 11; simp at x_11))
  have q_12 : ∀ n : CalmW W1.heap.size W1, n.val.cell? ⟨w.heap.size, 12, none⟩ = some (.int .i64 x.vv) := fun n => ((kx.below n.below kx.lt).cell 12).trans (by simp)
  have q_13 : ∀ n : CalmW W1.heap.size W1, n.val.cell? ⟨w.heap.size, 13, none⟩ = some (.int .i64 x.vn) := fun n => ((kx.below n.below kx.lt).cell 13).trans (by simp)
  have r_0 : ∀ n : CalmW W1.heap.size W1, n.val.cell? ⟨w.heap.size + 1, 0, none⟩ = some (.float .f64 a) := fun n => ((kc.below n.below kc.lt).cell 0).trans (by simp)
  have r_1 : ∀ n : CalmW W1.heap.size W1, n.val.cell? ⟨w.heap.size + 1, 1, none⟩ = some (.float .f64 s) := fun n => ((kc.below n.below kc.lt).cell 1).trans (by simp)
  have r_2 : ∀ n : CalmW W1.heap.size W1, n.val.cell? ⟨w.heap.size + 1, 2, none⟩ = some (.float .f64 t) := fun n => ((kc.below n.below kc.lt).cell 2).trans (by simp)
  refine wp_region_calm_head W1.heap.size 6 1 #[true, true, true, true, true, true, false] (by kernel_rfl) (by kernel_rfl) rfl ?_
  simp only [List.take_succ_cons, List.take_zero]
  repeat (go_big_quiet_step (first | (with_reducible refine calm_of (Nat.le_refl _) (hV _)) | (with_reducible refine calm_of (Nat.le_refl _) (hA _))))
  refine wpQuiet_nil ?_
  intro W4 hw4
  obtain ⟨⟨W5, b4⟩, hw5⟩ := hw4
  obtain rfl : W4 = W5 := hw5
  clear q_12 q_13 r_0 r_1 r_2
  have kx4 := kx.below b4 kx.lt
  have kp4 := kp.below b4 kp.lt
  have ky4 := ky1.below b4 ky1.lt
  have ke4 := ke.below b4 ke.lt
  have B4 := bthen B0 b4
  clear kx kp ky1 ke B0 b4 kc x_11
  have s_12 := ky4.cell 12
  have s_13 := ky4.cell 13
  have f_12 := ky4.frozen 12
  have f_13 := ky4.frozen 13
  simp at s_12 s_13
  refine wpAny_ready (rs := [6]) (by kernel_rfl) (by simp) ?_
  refine AllReady.cons rfl (fun K hK => ?_) AllReady.nil
  go_simp
  refine hK _ _ ?_
  clear hK K
  refine wpAny_done (by kernel_rfl) ?_ _
  have ky : Blk ((W4.setCell ⟨w.heap.size + 1 + 1 + 1, 12, none⟩ (.int .i64 v)).setCell ⟨w.heap.size + 1 + 1 + 1, 13, none⟩ (.int .i64 nv)) (w.heap.size + 1 + 1 + 1) 36 (suC ⟨x.f, x.s, x.ph, v, nv⟩) := by simpa using (ky4.set 12 (.int .i64 v)).set 13 (.int .i64 nv)
  have kx := (kx4.other ⟨w.heap.size + 1 + 1 + 1, 12, none⟩ (by show w.heap.size ≠ w.heap.size + 1 + 1 + 1; omega) (.int .i64 v)).other ⟨w.heap.size + 1 + 1 + 1, 13, none⟩ (by show w.heap.size ≠ w.heap.size + 1 + 1 + 1; omega) (.int .i64 nv)
  have kp := (kp4.other ⟨w.heap.size + 1 + 1 + 1, 12, none⟩ (by show w.heap.size + 1 + 1 ≠ w.heap.size + 1 + 1 + 1; omega) (.int .i64 v)).other ⟨w.heap.size + 1 + 1 + 1, 13, none⟩ (by show w.heap.size + 1 + 1 ≠ w.heap.size + 1 + 1 + 1; omega) (.int .i64 nv)
  have ke := (ke4.other ⟨w.heap.size + 1 + 1 + 1, 12, none⟩ (by show w.heap.size + 1 + 1 + 1 + 1 ≠ w.heap.size + 1 + 1 + 1; omega) (.int .i64 v)).other ⟨w.heap.size + 1 + 1 + 1, 13, none⟩ (by show w.heap.size + 1 + 1 + 1 + 1 ≠ w.heap.size + 1 + 1 + 1; omega) (.int .i64 nv)
  have B0 := (B4.setCell (p := ⟨w.heap.size + 1 + 1 + 1, 12, none⟩) (by show w.heap.size ≤ w.heap.size + 1 + 1 + 1; omega) (.int .i64 v)).setCell (p := ⟨w.heap.size + 1 + 1 + 1, 13, none⟩) (by show w.heap.size ≤ w.heap.size + 1 + 1 + 1; omega) (.int .i64 nv)
  clear kx4 kp4 ky4 ke4 B4 s_12 s_13 f_12 f_13
  generalize World.setCell (World.setCell W4 _ _) _ _ = W6 at *
  have s_12 := ky.cell 12
  have s_13 := ky.cell 13
  have x_11 := kx.cell 11
  simp at s_12 s_13 x_11
  rw [HD.out] at x_11
  have x_5 := kx.cell 5
  have x_6 := kx.cell 6
  have x_7 := kx.cell 7
  have x_8 := kx.cell 8
  have x_9 := kx.cell 9
  have x_10 := kx.cell 10
  simp at x_5 x_6 x_7 x_8 x_9 x_10
  go_wp2_with (first | (((with_reducible refine (hD _).mono ?_); rintro e w7 ⟨rfl, q7⟩; have kx7 := kx.below q7 kx.lt; have kp7 := kp.below q7 kp.lt; have ky1 := ky.below q7 ky.lt; have ke7 := ke.below q7 ke.lt; have B7 := bthen B0 q7; clear kx kp ky B0 ke; have ke := ke7; have B0 := B7; clear ke7 B7 q7; have x_11 := kx7.cell 11; have e_0 := ke.cell 0; simp at x_11 e_0); rw [HD.out] at x_11; have v_5 := kx7.cell 5; have v_6 := kx7.cell 6; have v_7 := kx7.cell 7; have v_8 := kx7.cell 8; have v_9 := kx7.cell 9; have v_10 := kx7.cell 10; simp at v_5 v_6 v_7 v_8 v_9 v_10) | ((with_reducible refine (hR _).mono ?_); rintro e w8 ⟨rfl, q8⟩; have kx8 := kx7.below q8 kx7.lt; have kp8 := kp7.below q8 kp7.lt; have ky8 := ky1.below q8 ky1.lt; have ke8 := ke.below q8 ke.lt; have B8 := bthen B0 q8; clear kx7 kp7 ky1 ke B0 q8 x_11 e_0; have v_0 := kx8.cell 0; have v_1 := kx8.cell 1; have v_2 := kx8.cell 2; have v_3 := kx8.cell 3; have v_4 := kx8.cell 4; have v_11 := kx8.cell 11; have v_12 := kx8.cell 12; have v_13 := kx8.cell 13; have v_5 := kx8.cell 5; have v_6 := kx8.cell 6; have v_7 := kx8.cell 7; have v_8 := kx8.cell 8; have v_9 := kx8.cell 9; have v_10 := kx8.cell 10; simp at v_0 v_1 v_2 v_3 v_4 v_11 v_12 v_13 v_5 v_6 v_7 v_8 v_9 v_10; have l8 := kx8.lt; have g_0 := kp8.cell 0; have g_1 := kp8.cell 1; simp at g_0 g_1; have lp := kp8.lt; have e_0 := ke8.cell 0; simp at e_0; have le := ke8.lt; have y_11 := ky8.cell 11; have yf_11 := ky8.frozen 11; simp at y_11; have ly := ky8.lt) | ((with_reducible refine (hK _ (hN.below (B8.alloc B8.size (.cells (stC S) 32)))).mono ?_); rintro e w9 ⟨rfl, q9⟩; have ky9 := (ky8.alloc (.cells (stC S) 32)).below q9 (ky8.alloc (.cells (stC S) 32)).lt; have ke9 := (ke8.alloc (.cells (stC S) 32)).below q9 (ke8.alloc (.cells (stC S) 32)).lt; have B9 := bthen (B8.alloc B8.size (.cells (stC S) 32)) q9; have z_11 := ky9.cell 11; have zf_11 := ky9.frozen 11; simp at z_11; have ky1 := ky9.set 11 (.int .i64 1); have ke := ke9.other ⟨w.heap.size + 1 + 1 + 1, 11, none⟩ (by show w.heap.size + 1 + 1 + 1 + 1 ≠ w.heap.size + 1 + 1 + 1; omega) (.int .i64 1); have B0 := B9.setCell (p := ⟨w.heap.size + 1 + 1 + 1, 11, none⟩) (by show w.heap.size ≤ w.heap.size + 1 + 1 + 1; omega) (.int .i64 1); simp only [List.setIfInBounds_toArray, List.set_cons_succ, List.set_cons_zero] at ky1; have e_0 := ke9.cell 0; simp at e_0; have hne : w.heap.size + 1 + 1 + 1 + 1 ≠ w.heap.size + 1 + 1 + 1 := by omega) | (refine wpList_load_row rfl 36 (.tmp 6) rfl (w.heap.size + 1 + 1 + 1) rfl 36 (suC (⟨x.f, x.s, 1, v, nv⟩ : Su)) (0, 0) _ ky1 Tryz.underlying36 rfl (infoSu _) ?_) | (refine wpList_store_row rfl 36 (.tmp 6) (.tmp 51) rfl (w.heap.size + 1 + 1 + 1) (suC (⟨x.f, x.s, 1, v, nv⟩ : Su)) rfl rfl 36 _ ky1 (infoSu _) rfl (oneSu _) ?_; replace ke := ke.rowOther (w.heap.size + 1 + 1 + 1) (by omega) (suC (⟨x.f, x.s, 1, v, nv⟩ : Su)); replace B0 := bel_row B0 (w.heap.size + 1 + 1 + 1) (by omega) (suC (⟨x.f, x.s, 1, v, nv⟩ : Su)); replace ky1 := ky1.row (suC (⟨x.f, x.s, 1, v, nv⟩ : Su)); generalize World.setRow _ _ _ = W8 at *; have e_0 := ke.cell 0; have f_0 := ke.frozen 0; simp at e_0))
  refine leaves_cons (f := 24) (args := #[.pointer (some ⟨w.heap.size + 1 + 1 + 1 + 1, 0, none⟩)]) (by simp) (by simp [go_sem]) ?_
  refine (guard_idle ⟨w.heap.size + 1 + 1 + 1 + 1, 0, none⟩ _).mono ?_
  rintro e u' w9 ⟨rfl, rfl, rfl⟩
  have ke9 := ke.set 0 (.int .i64 0)
  have ky9 := ky1.other ⟨w.heap.size + 1 + 1 + 1 + 1, 0, none⟩ (by show w.heap.size + 1 + 1 + 1 ≠ w.heap.size + 1 + 1 + 1 + 1; omega) (.int .i64 0)
  have B9 := B0.setCell (p := ⟨w.heap.size + 1 + 1 + 1 + 1, 0, none⟩) (by simp; omega) (.int .i64 0)
  generalize World.setCell _ ⟨w.heap.size + 1 + 1 + 1 + 1, 0, none⟩ (.int .i64 0) = w3 at *
  have l9 := load_errno w3 ⟨w.heap.size + 1 + 1 + 1 + 1, 0, none⟩ 0 ((ke9.cell 0).trans (by simp))
  exact ⟨_, results_cell_cell rfl _ _ (w.heap.size + 1 + 1 + 1) 36 (suC (⟨x.f, x.s, 1, v, nv⟩ : Su)) (0, 0) _ ⟨w.heap.size + 1 + 1 + 1 + 1, 0, none⟩ _ rfl rfl ky9 Tryz.underlying36 rfl (infoSu _) l9, rfl, B9⟩

set_option maxRecDepth 100000 in
set_option maxHeartbeats 8000000 in
theorem smp_new (x : Su) (a s t : Nat) (v nv : Int) (hV : ∀ W, Calls Tryz.prog 47 #[saV a s t] W fun e w' => e = .returned (.int .i64 v) ∧ Below W.heap.size W w')
    (hA : ∀ W, Calls Tryz.prog 46 #[.agg #[.int .i64 x.vv, .int .i64 x.vn], .int .i64 v] W fun e w' => e = .returned (.agg #[.int .i64 v, .int .i64 nv]) ∧ Below W.heap.size W w')
    (hD : ∀ W, Calls Tryz.prog 48 #[.agg #[.int .i64 v, .int .i64 nv]] W fun e w' => e = .returned (.int .i64 v) ∧ Below W.heap.size W w') (hv0 : (v == 0) = false)
    (S : St) (hR : ∀ W, Calls Tryz.prog 49 #[stV x.s, .int .i64 v] W fun e w' => e = .returned (stV S) ∧ Below W.heap.size W w') (hS : eqSt S x.s = false)
    (hf : x.f.ok) (hSo : S.ok)(cut : Int) (mask : ByteArray) (hm : mask.size ≤ 1000) (R : Su) (hRR : wrX ⟨x.f, x.s, x.ph, v, nv⟩ S cut mask = R) (ok : Bool) (hwr : wrE ⟨x.f, x.s, x.ph, v, nv⟩ S cut mask = ok) (w : World) (hN : NoneG w) (hd : x.ph = 0) :
    Calls Tryz.prog 30 #[suV x, saV a s t, .agg #[.int .i64 cut, .string mask]] w (CmdPost w (if ok then { R with ph := 1 } else R) (if ok then 0 else 26)) := by
  have hq := run_ne_st S x.s
  rw [hS] at hq
  cases ok
  case true =>
    have h3 : ¬ x.ph = 3 := by omega
    have HD := Lib.hid hd
    clear hd
    have kx := ((((Blk.new w 36 (suC x)).alloc (.cells (saC a s t) 53)).alloc (.cells #[.int .i64 cut, .string mask] 48)).alloc (.cells suZ 36)).alloc (.cells #[.int .i64 0] 40)
    have kc := (((Blk.new (w.alloc (.cells (suC x) 36)) 53 (saC a s t)).alloc (.cells #[.int .i64 cut, .string mask] 48)).alloc (.cells suZ 36)).alloc (.cells #[.int .i64 0] 40)
    have kp := ((Blk.new ((w.alloc (.cells (suC x) 36)).alloc (.cells (saC a s t) 53)) 48 #[.int .i64 cut, .string mask]).alloc (.cells suZ 36)).alloc (.cells #[.int .i64 0] 40)
    have ky := (Blk.new (((w.alloc (.cells (suC x) 36)).alloc (.cells (saC a s t) 53)).alloc (.cells #[.int .i64 cut, .string mask] 48)) 36 suZ).alloc (.cells #[.int .i64 0] 40)
    have ke := Blk.new ((((w.alloc (.cells (suC x) 36)).alloc (.cells (saC a s t) 53)).alloc (.cells #[.int .i64 cut, .string mask] 48)).alloc (.cells suZ 36)) 40 #[.int .i64 0]
    have B0 : Below w.heap.size w (((((w.alloc (.cells (suC x) 36)).alloc (.cells (saC a s t) 53)).alloc (.cells #[.int .i64 cut, .string mask] 48)).alloc (.cells suZ 36)).alloc (.cells #[.int .i64 0] 40)) := (((((Below.refl _ w).alloc (Nat.le_refl _) _).alloc (by simp) _).alloc (by simp; omega) _).alloc (by simp; omega) _).alloc (by simp; omega) _
    simp only [World.size_alloc] at kc kp ky ke
    go_enter_defers Tryz.func30, Tryz.ntmps30
    go_wp2_with (first | (refine wpList_load_row rfl 36 (.tmp 3) rfl w.heap.size rfl 36 (suC x) (0, 0) _ kx Tryz.underlying36 rfl (infoSu _) ?_) | (refine wpList_store_row rfl 36 (.tmp 6) (.tmp 10) rfl (w.heap.size + 1 + 1 + 1) (suC x) rfl rfl 36 _ ky (infoSu _) rfl (oneSu _) ?_; replace kx := kx.rowOther (w.heap.size + 1 + 1 + 1) (by omega) (suC x); replace kc := kc.rowOther (w.heap.size + 1 + 1 + 1) (by omega) (suC x); replace kp := kp.rowOther (w.heap.size + 1 + 1 + 1) (by omega) (suC x); replace ke := ke.rowOther (w.heap.size + 1 + 1 + 1) (by omega) (suC x); replace B0 := bel_row B0 (w.heap.size + 1 + 1 + 1) (by omega) (suC x); have ky1 := ky.row (suC x); clear ky; generalize World.setRow _ _ _ = W1 at *; have x_11 := kx.cell 11; simp at x_11))
    have q_12 : ∀ n : CalmW W1.heap.size W1, n.val.cell? ⟨w.heap.size, 12, none⟩ = some (.int .i64 x.vv) := fun n => ((kx.below n.below kx.lt).cell 12).trans (by simp)
    have q_13 : ∀ n : CalmW W1.heap.size W1, n.val.cell? ⟨w.heap.size, 13, none⟩ = some (.int .i64 x.vn) := fun n => ((kx.below n.below kx.lt).cell 13).trans (by simp)
    have r_0 : ∀ n : CalmW W1.heap.size W1, n.val.cell? ⟨w.heap.size + 1, 0, none⟩ = some (.float .f64 a) := fun n => ((kc.below n.below kc.lt).cell 0).trans (by simp)
    have r_1 : ∀ n : CalmW W1.heap.size W1, n.val.cell? ⟨w.heap.size + 1, 1, none⟩ = some (.float .f64 s) := fun n => ((kc.below n.below kc.lt).cell 1).trans (by simp)
    have r_2 : ∀ n : CalmW W1.heap.size W1, n.val.cell? ⟨w.heap.size + 1, 2, none⟩ = some (.float .f64 t) := fun n => ((kc.below n.below kc.lt).cell 2).trans (by simp)
    refine wp_region_calm_head W1.heap.size 6 1 #[true, true, true, true, true, true, false] (by kernel_rfl) (by kernel_rfl) rfl ?_
    simp only [List.take_succ_cons, List.take_zero]
    repeat (go_big_quiet_step (first | (with_reducible refine calm_of (Nat.le_refl _) (hV _)) | (with_reducible refine calm_of (Nat.le_refl _) (hA _))))
    refine wpQuiet_nil ?_
    intro W4 hw4
    obtain ⟨⟨W5, b4⟩, hw5⟩ := hw4
    obtain rfl : W4 = W5 := hw5
    clear q_12 q_13 r_0 r_1 r_2
    have kx4 := kx.below b4 kx.lt
    have kp4 := kp.below b4 kp.lt
    have ky4 := ky1.below b4 ky1.lt
    have ke4 := ke.below b4 ke.lt
    have B4 := bthen B0 b4
    clear kx kp ky1 ke B0 b4 kc x_11
    have s_12 := ky4.cell 12
    have s_13 := ky4.cell 13
    have f_12 := ky4.frozen 12
    have f_13 := ky4.frozen 13
    simp at s_12 s_13
    refine wpAny_ready (rs := [6]) (by kernel_rfl) (by simp) ?_
    refine AllReady.cons rfl (fun K hK => ?_) AllReady.nil
    go_simp
    refine hK _ _ ?_
    clear hK K
    refine wpAny_done (by kernel_rfl) ?_ _
    have ky : Blk ((W4.setCell ⟨w.heap.size + 1 + 1 + 1, 12, none⟩ (.int .i64 v)).setCell ⟨w.heap.size + 1 + 1 + 1, 13, none⟩ (.int .i64 nv)) (w.heap.size + 1 + 1 + 1) 36 (suC ⟨x.f, x.s, x.ph, v, nv⟩) := by simpa using (ky4.set 12 (.int .i64 v)).set 13 (.int .i64 nv)
    have kx := (kx4.other ⟨w.heap.size + 1 + 1 + 1, 12, none⟩ (by show w.heap.size ≠ w.heap.size + 1 + 1 + 1; omega) (.int .i64 v)).other ⟨w.heap.size + 1 + 1 + 1, 13, none⟩ (by show w.heap.size ≠ w.heap.size + 1 + 1 + 1; omega) (.int .i64 nv)
    have kp := (kp4.other ⟨w.heap.size + 1 + 1 + 1, 12, none⟩ (by show w.heap.size + 1 + 1 ≠ w.heap.size + 1 + 1 + 1; omega) (.int .i64 v)).other ⟨w.heap.size + 1 + 1 + 1, 13, none⟩ (by show w.heap.size + 1 + 1 ≠ w.heap.size + 1 + 1 + 1; omega) (.int .i64 nv)
    have ke := (ke4.other ⟨w.heap.size + 1 + 1 + 1, 12, none⟩ (by show w.heap.size + 1 + 1 + 1 + 1 ≠ w.heap.size + 1 + 1 + 1; omega) (.int .i64 v)).other ⟨w.heap.size + 1 + 1 + 1, 13, none⟩ (by show w.heap.size + 1 + 1 + 1 + 1 ≠ w.heap.size + 1 + 1 + 1; omega) (.int .i64 nv)
    have B0 := (B4.setCell (p := ⟨w.heap.size + 1 + 1 + 1, 12, none⟩) (by show w.heap.size ≤ w.heap.size + 1 + 1 + 1; omega) (.int .i64 v)).setCell (p := ⟨w.heap.size + 1 + 1 + 1, 13, none⟩) (by show w.heap.size ≤ w.heap.size + 1 + 1 + 1; omega) (.int .i64 nv)
    clear kx4 kp4 ky4 ke4 B4 s_12 s_13 f_12 f_13
    generalize World.setCell (World.setCell W4 _ _) _ _ = W6 at *
    have s_12 := ky.cell 12
    have s_13 := ky.cell 13
    have x_11 := kx.cell 11
    simp at s_12 s_13 x_11
    rw [HD.out] at x_11
    have x_5 := kx.cell 5
    have x_6 := kx.cell 6
    have x_7 := kx.cell 7
    have x_8 := kx.cell 8
    have x_9 := kx.cell 9
    have x_10 := kx.cell 10
    simp at x_5 x_6 x_7 x_8 x_9 x_10
    go_wp2_with (first | (((with_reducible refine (hD _).mono ?_); rintro e w7 ⟨rfl, q7⟩; have kx7 := kx.below q7 kx.lt; have kp7 := kp.below q7 kp.lt; have ky1 := ky.below q7 ky.lt; have ke7 := ke.below q7 ke.lt; have B7 := bthen B0 q7; clear kx kp ky B0 ke; have ke := ke7; have B0 := B7; clear ke7 B7 q7; have x_11 := kx7.cell 11; have e_0 := ke.cell 0; simp at x_11 e_0); rw [HD.out] at x_11; have v_5 := kx7.cell 5; have v_6 := kx7.cell 6; have v_7 := kx7.cell 7; have v_8 := kx7.cell 8; have v_9 := kx7.cell 9; have v_10 := kx7.cell 10; simp at v_5 v_6 v_7 v_8 v_9 v_10) | ((with_reducible refine (hR _).mono ?_); rintro e w8 ⟨rfl, q8⟩; have kx8 := kx7.below q8 kx7.lt; have kp8 := kp7.below q8 kp7.lt; have ky8 := ky1.below q8 ky1.lt; have ke8 := ke.below q8 ke.lt; have B8 := bthen B0 q8; clear kx7 kp7 ky1 ke B0 q8 x_11 e_0; have v_0 := kx8.cell 0; have v_1 := kx8.cell 1; have v_2 := kx8.cell 2; have v_3 := kx8.cell 3; have v_4 := kx8.cell 4; have v_11 := kx8.cell 11; have v_12 := kx8.cell 12; have v_13 := kx8.cell 13; have v_5 := kx8.cell 5; have v_6 := kx8.cell 6; have v_7 := kx8.cell 7; have v_8 := kx8.cell 8; have v_9 := kx8.cell 9; have v_10 := kx8.cell 10; simp at v_0 v_1 v_2 v_3 v_4 v_11 v_12 v_13 v_5 v_6 v_7 v_8 v_9 v_10; have l8 := kx8.lt; have g_0 := kp8.cell 0; have g_1 := kp8.cell 1; simp at g_0 g_1; have lp := kp8.lt; have e_0 := ke8.cell 0; simp at e_0; have le := ke8.lt; have y_11 := ky8.cell 11; have yf_11 := ky8.frozen 11; simp at y_11; have ly := ky8.lt) | fail | (((have hW := write_any ⟨x.f, x.s, x.ph, v, nv⟩ hf S hSo cut mask hm _ (w.heap.size + 1 + 1 + 1) (ky8.alloc (.cells (stC S) 32)) (by omega) (hN.below (B8.alloc B8.size (.cells (stC S) 32))); rw [hwr, hRR] at hW; simp only [wrEnd, if_true, if_false, Bool.false_eq_true] at hW; refine hW.mono ?_; rintro e w10 ⟨rfl, ky6, t6⟩; have ke6 := t6.blk (ke8.alloc (.cells (stC S) 32)) (by omega); have B6 := t6.below (B8.alloc B8.size (.cells (stC S) 32)) (by omega))); (have z_11 := ky6.cell 11; have zf_11 := ky6.frozen 11; simp at z_11; have ky1 : Blk (w10.setCell ⟨w.heap.size + 1 + 1 + 1, 11, none⟩ (.int .i64 1)) (w.heap.size + 1 + 1 + 1) 36 (suC { R with ph := 1 }) := (by simpa using ky6.set 11 (.int .i64 1)); have ke := ke6.other ⟨w.heap.size + 1 + 1 + 1, 11, none⟩ (by show w.heap.size + 1 + 1 + 1 + 1 ≠ w.heap.size + 1 + 1 + 1; omega) (.int .i64 1); have B0 := B6.setCell (p := ⟨w.heap.size + 1 + 1 + 1, 11, none⟩) (by show w.heap.size ≤ w.heap.size + 1 + 1 + 1; omega) (.int .i64 1); have e_0 := ke6.cell 0; simp at e_0; have hne : w.heap.size + 1 + 1 + 1 + 1 ≠ w.heap.size + 1 + 1 + 1 := (by omega))) | (refine wpList_load_row rfl 36 (.tmp 6) rfl (w.heap.size + 1 + 1 + 1) rfl 36 (suC { R with ph := 1 }) (0, 0) _ ky1 Tryz.underlying36 rfl (infoSu _) ?_) | (refine wpList_store_row rfl 36 (.tmp 6) (.tmp 51) rfl (w.heap.size + 1 + 1 + 1) (suC { R with ph := 1 }) rfl rfl 36 _ ky1 (infoSu _) rfl (oneSu _) ?_; replace ke := ke.rowOther (w.heap.size + 1 + 1 + 1) (by omega) (suC { R with ph := 1 }); replace B0 := bel_row B0 (w.heap.size + 1 + 1 + 1) (by omega) (suC { R with ph := 1 }); replace ky1 := ky1.row (suC { R with ph := 1 }); generalize World.setRow _ _ _ = W8 at *; have e_0 := ke.cell 0; have f_0 := ke.frozen 0; simp at e_0))
    refine leaves_cons (f := 24) (args := #[.pointer (some ⟨w.heap.size + 1 + 1 + 1 + 1, 0, none⟩)]) (by simp) (by simp [go_sem]) ?_
    refine (guard_idle ⟨w.heap.size + 1 + 1 + 1 + 1, 0, none⟩ _).mono ?_
    rintro e u' w9 ⟨rfl, rfl, rfl⟩
    have ke9 := ke.set 0 (.int .i64 0)
    have ky9 := ky1.other ⟨w.heap.size + 1 + 1 + 1 + 1, 0, none⟩ (by show w.heap.size + 1 + 1 + 1 ≠ w.heap.size + 1 + 1 + 1 + 1; omega) (.int .i64 0)
    have B9 := B0.setCell (p := ⟨w.heap.size + 1 + 1 + 1 + 1, 0, none⟩) (by simp; omega) (.int .i64 0)
    generalize World.setCell _ ⟨w.heap.size + 1 + 1 + 1 + 1, 0, none⟩ (.int .i64 0) = w3 at *
    have l9 := load_errno w3 ⟨w.heap.size + 1 + 1 + 1 + 1, 0, none⟩ 0 ((ke9.cell 0).trans (by simp))
    exact ⟨_, results_cell_cell rfl _ _ (w.heap.size + 1 + 1 + 1) 36 (suC { R with ph := 1 }) (0, 0) _ ⟨w.heap.size + 1 + 1 + 1 + 1, 0, none⟩ _ rfl rfl ky9 Tryz.underlying36 rfl (infoSu _) l9, rfl, B9⟩
  case false =>
    have h3 : ¬ x.ph = 3 := by omega
    have HD := Lib.hid hd
    clear hd
    have kx := ((((Blk.new w 36 (suC x)).alloc (.cells (saC a s t) 53)).alloc (.cells #[.int .i64 cut, .string mask] 48)).alloc (.cells suZ 36)).alloc (.cells #[.int .i64 0] 40)
    have kc := (((Blk.new (w.alloc (.cells (suC x) 36)) 53 (saC a s t)).alloc (.cells #[.int .i64 cut, .string mask] 48)).alloc (.cells suZ 36)).alloc (.cells #[.int .i64 0] 40)
    have kp := ((Blk.new ((w.alloc (.cells (suC x) 36)).alloc (.cells (saC a s t) 53)) 48 #[.int .i64 cut, .string mask]).alloc (.cells suZ 36)).alloc (.cells #[.int .i64 0] 40)
    have ky := (Blk.new (((w.alloc (.cells (suC x) 36)).alloc (.cells (saC a s t) 53)).alloc (.cells #[.int .i64 cut, .string mask] 48)) 36 suZ).alloc (.cells #[.int .i64 0] 40)
    have ke := Blk.new ((((w.alloc (.cells (suC x) 36)).alloc (.cells (saC a s t) 53)).alloc (.cells #[.int .i64 cut, .string mask] 48)).alloc (.cells suZ 36)) 40 #[.int .i64 0]
    have B0 : Below w.heap.size w (((((w.alloc (.cells (suC x) 36)).alloc (.cells (saC a s t) 53)).alloc (.cells #[.int .i64 cut, .string mask] 48)).alloc (.cells suZ 36)).alloc (.cells #[.int .i64 0] 40)) := (((((Below.refl _ w).alloc (Nat.le_refl _) _).alloc (by simp) _).alloc (by simp; omega) _).alloc (by simp; omega) _).alloc (by simp; omega) _
    simp only [World.size_alloc] at kc kp ky ke
    go_enter_defers Tryz.func30, Tryz.ntmps30
    go_wp2_with (first | (refine wpList_load_row rfl 36 (.tmp 3) rfl w.heap.size rfl 36 (suC x) (0, 0) _ kx Tryz.underlying36 rfl (infoSu _) ?_) | (refine wpList_store_row rfl 36 (.tmp 6) (.tmp 10) rfl (w.heap.size + 1 + 1 + 1) (suC x) rfl rfl 36 _ ky (infoSu _) rfl (oneSu _) ?_; replace kx := kx.rowOther (w.heap.size + 1 + 1 + 1) (by omega) (suC x); replace kc := kc.rowOther (w.heap.size + 1 + 1 + 1) (by omega) (suC x); replace kp := kp.rowOther (w.heap.size + 1 + 1 + 1) (by omega) (suC x); replace ke := ke.rowOther (w.heap.size + 1 + 1 + 1) (by omega) (suC x); replace B0 := bel_row B0 (w.heap.size + 1 + 1 + 1) (by omega) (suC x); have ky1 := ky.row (suC x); clear ky; generalize World.setRow _ _ _ = W1 at *; have x_11 := kx.cell 11; simp at x_11))
    have q_12 : ∀ n : CalmW W1.heap.size W1, n.val.cell? ⟨w.heap.size, 12, none⟩ = some (.int .i64 x.vv) := fun n => ((kx.below n.below kx.lt).cell 12).trans (by simp)
    have q_13 : ∀ n : CalmW W1.heap.size W1, n.val.cell? ⟨w.heap.size, 13, none⟩ = some (.int .i64 x.vn) := fun n => ((kx.below n.below kx.lt).cell 13).trans (by simp)
    have r_0 : ∀ n : CalmW W1.heap.size W1, n.val.cell? ⟨w.heap.size + 1, 0, none⟩ = some (.float .f64 a) := fun n => ((kc.below n.below kc.lt).cell 0).trans (by simp)
    have r_1 : ∀ n : CalmW W1.heap.size W1, n.val.cell? ⟨w.heap.size + 1, 1, none⟩ = some (.float .f64 s) := fun n => ((kc.below n.below kc.lt).cell 1).trans (by simp)
    have r_2 : ∀ n : CalmW W1.heap.size W1, n.val.cell? ⟨w.heap.size + 1, 2, none⟩ = some (.float .f64 t) := fun n => ((kc.below n.below kc.lt).cell 2).trans (by simp)
    refine wp_region_calm_head W1.heap.size 6 1 #[true, true, true, true, true, true, false] (by kernel_rfl) (by kernel_rfl) rfl ?_
    simp only [List.take_succ_cons, List.take_zero]
    repeat (go_big_quiet_step (first | (with_reducible refine calm_of (Nat.le_refl _) (hV _)) | (with_reducible refine calm_of (Nat.le_refl _) (hA _))))
    refine wpQuiet_nil ?_
    intro W4 hw4
    obtain ⟨⟨W5, b4⟩, hw5⟩ := hw4
    obtain rfl : W4 = W5 := hw5
    clear q_12 q_13 r_0 r_1 r_2
    have kx4 := kx.below b4 kx.lt
    have kp4 := kp.below b4 kp.lt
    have ky4 := ky1.below b4 ky1.lt
    have ke4 := ke.below b4 ke.lt
    have B4 := bthen B0 b4
    clear kx kp ky1 ke B0 b4 kc x_11
    have s_12 := ky4.cell 12
    have s_13 := ky4.cell 13
    have f_12 := ky4.frozen 12
    have f_13 := ky4.frozen 13
    simp at s_12 s_13
    refine wpAny_ready (rs := [6]) (by kernel_rfl) (by simp) ?_
    refine AllReady.cons rfl (fun K hK => ?_) AllReady.nil
    go_simp
    refine hK _ _ ?_
    clear hK K
    refine wpAny_done (by kernel_rfl) ?_ _
    have ky : Blk ((W4.setCell ⟨w.heap.size + 1 + 1 + 1, 12, none⟩ (.int .i64 v)).setCell ⟨w.heap.size + 1 + 1 + 1, 13, none⟩ (.int .i64 nv)) (w.heap.size + 1 + 1 + 1) 36 (suC ⟨x.f, x.s, x.ph, v, nv⟩) := by simpa using (ky4.set 12 (.int .i64 v)).set 13 (.int .i64 nv)
    have kx := (kx4.other ⟨w.heap.size + 1 + 1 + 1, 12, none⟩ (by show w.heap.size ≠ w.heap.size + 1 + 1 + 1; omega) (.int .i64 v)).other ⟨w.heap.size + 1 + 1 + 1, 13, none⟩ (by show w.heap.size ≠ w.heap.size + 1 + 1 + 1; omega) (.int .i64 nv)
    have kp := (kp4.other ⟨w.heap.size + 1 + 1 + 1, 12, none⟩ (by show w.heap.size + 1 + 1 ≠ w.heap.size + 1 + 1 + 1; omega) (.int .i64 v)).other ⟨w.heap.size + 1 + 1 + 1, 13, none⟩ (by show w.heap.size + 1 + 1 ≠ w.heap.size + 1 + 1 + 1; omega) (.int .i64 nv)
    have ke := (ke4.other ⟨w.heap.size + 1 + 1 + 1, 12, none⟩ (by show w.heap.size + 1 + 1 + 1 + 1 ≠ w.heap.size + 1 + 1 + 1; omega) (.int .i64 v)).other ⟨w.heap.size + 1 + 1 + 1, 13, none⟩ (by show w.heap.size + 1 + 1 + 1 + 1 ≠ w.heap.size + 1 + 1 + 1; omega) (.int .i64 nv)
    have B0 := (B4.setCell (p := ⟨w.heap.size + 1 + 1 + 1, 12, none⟩) (by show w.heap.size ≤ w.heap.size + 1 + 1 + 1; omega) (.int .i64 v)).setCell (p := ⟨w.heap.size + 1 + 1 + 1, 13, none⟩) (by show w.heap.size ≤ w.heap.size + 1 + 1 + 1; omega) (.int .i64 nv)
    clear kx4 kp4 ky4 ke4 B4 s_12 s_13 f_12 f_13
    generalize World.setCell (World.setCell W4 _ _) _ _ = W6 at *
    have s_12 := ky.cell 12
    have s_13 := ky.cell 13
    have x_11 := kx.cell 11
    simp at s_12 s_13 x_11
    rw [HD.out] at x_11
    have x_5 := kx.cell 5
    have x_6 := kx.cell 6
    have x_7 := kx.cell 7
    have x_8 := kx.cell 8
    have x_9 := kx.cell 9
    have x_10 := kx.cell 10
    simp at x_5 x_6 x_7 x_8 x_9 x_10
    go_wp2_with (first | (((with_reducible refine (hD _).mono ?_); rintro e w7 ⟨rfl, q7⟩; have kx7 := kx.below q7 kx.lt; have kp7 := kp.below q7 kp.lt; have ky1 := ky.below q7 ky.lt; have ke7 := ke.below q7 ke.lt; have B7 := bthen B0 q7; clear kx kp ky B0 ke; have ke := ke7; have B0 := B7; clear ke7 B7 q7; have x_11 := kx7.cell 11; have e_0 := ke.cell 0; simp at x_11 e_0); rw [HD.out] at x_11; have v_5 := kx7.cell 5; have v_6 := kx7.cell 6; have v_7 := kx7.cell 7; have v_8 := kx7.cell 8; have v_9 := kx7.cell 9; have v_10 := kx7.cell 10; simp at v_5 v_6 v_7 v_8 v_9 v_10) | ((with_reducible refine (hR _).mono ?_); rintro e w8 ⟨rfl, q8⟩; have kx8 := kx7.below q8 kx7.lt; have kp8 := kp7.below q8 kp7.lt; have ky8 := ky1.below q8 ky1.lt; have ke8 := ke.below q8 ke.lt; have B8 := bthen B0 q8; clear kx7 kp7 ky1 ke B0 q8 x_11 e_0; have v_0 := kx8.cell 0; have v_1 := kx8.cell 1; have v_2 := kx8.cell 2; have v_3 := kx8.cell 3; have v_4 := kx8.cell 4; have v_11 := kx8.cell 11; have v_12 := kx8.cell 12; have v_13 := kx8.cell 13; have v_5 := kx8.cell 5; have v_6 := kx8.cell 6; have v_7 := kx8.cell 7; have v_8 := kx8.cell 8; have v_9 := kx8.cell 9; have v_10 := kx8.cell 10; simp at v_0 v_1 v_2 v_3 v_4 v_11 v_12 v_13 v_5 v_6 v_7 v_8 v_9 v_10; have l8 := kx8.lt; have g_0 := kp8.cell 0; have g_1 := kp8.cell 1; simp at g_0 g_1; have lp := kp8.lt; have e_0 := ke8.cell 0; simp at e_0; have le := ke8.lt; have y_11 := ky8.cell 11; have yf_11 := ky8.frozen 11; simp at y_11; have ly := ky8.lt) | fail | (((have hW := write_any ⟨x.f, x.s, x.ph, v, nv⟩ hf S hSo cut mask hm _ (w.heap.size + 1 + 1 + 1) (ky8.alloc (.cells (stC S) 32)) (by omega) (hN.below (B8.alloc B8.size (.cells (stC S) 32))); rw [hwr, hRR] at hW; simp only [wrEnd, if_true, if_false, Bool.false_eq_true] at hW; refine hW.mono ?_; rintro e w10 ⟨rfl, ky6, t6⟩; have ke6 := t6.blk (ke8.alloc (.cells (stC S) 32)) (by omega); have B6 := t6.below (B8.alloc B8.size (.cells (stC S) 32)) (by omega))); (have ky1 := ky6; have ke := ke6; have B0 := B6)))
    refine leaves_cons (f := 24) (args := #[.pointer (some ⟨w.heap.size + 1 + 1 + 1 + 1, 0, none⟩)]) (by simp) (by simp [go_sem]) ?_
    refine (guard_panicking ⟨w.heap.size + 1 + 1 + 1 + 1, 0, none⟩ 0 26 [] _ (ke.cell 0) (ke.frozen 0) ke.lt).mono ?_
    rintro e u' w9 ⟨rfl, rfl, rfl⟩
    have ke9 := (ke.alloc (.cells #[.int .i64 26] 67)).set 0 (.int .i64 26)
    have ky9 := (ky1.alloc (.cells #[.int .i64 26] 67)).other ⟨w.heap.size + 1 + 1 + 1 + 1, 0, none⟩ (by show w.heap.size + 1 + 1 + 1 ≠ w.heap.size + 1 + 1 + 1 + 1; omega) (.int .i64 26)
    have B9 := (B0.alloc B0.size (.cells #[.int .i64 26] 67)).setCell (p := ⟨w.heap.size + 1 + 1 + 1 + 1, 0, none⟩) (by simp; omega) (.int .i64 26)
    generalize World.setCell _ ⟨w.heap.size + 1 + 1 + 1 + 1, 0, none⟩ (.int .i64 26) = w3 at *
    have l9 := load_errno w3 ⟨w.heap.size + 1 + 1 + 1 + 1, 0, none⟩ 26 ((ke9.cell 0).trans (by simp))
    exact ⟨_, results_cell_cell rfl _ _ (w.heap.size + 1 + 1 + 1) 36 (suC R) (0, 0) _ ⟨w.heap.size + 1 + 1 + 1 + 1, 0, none⟩ _ rfl rfl ky9 Tryz.underlying36 rfl (infoSu _) l9, rfl, B9⟩
set_option maxRecDepth 100000 in
set_option maxHeartbeats 8000000 in
theorem smp_lost (x : Su) (a s t : Nat) (v nv : Int) (hV : ∀ W, Calls Tryz.prog 47 #[saV a s t] W fun e w' => e = .returned (.int .i64 v) ∧ Below W.heap.size W w')
    (hA : ∀ W, Calls Tryz.prog 46 #[.agg #[.int .i64 x.vv, .int .i64 x.vn], .int .i64 v] W fun e w' => e = .returned (.agg #[.int .i64 v, .int .i64 nv]) ∧ Below W.heap.size W w')
    (hD : ∀ W, Calls Tryz.prog 48 #[.agg #[.int .i64 v, .int .i64 nv]] W fun e w' => e = .returned (.int .i64 v) ∧ Below W.heap.size W w') (hv0 : (v == 0) = false)
    (S : St) (hR : ∀ W, Calls Tryz.prog 49 #[stV x.s, .int .i64 v] W fun e w' => e = .returned (stV S) ∧ Below W.heap.size W w') (hS : eqSt S x.s = true)
    (hf : x.f.ok) (hSo : S.ok)(hK : ∀ W, NoneG W → Calls Tryz.prog 50 #[suV x] W fun e w' => e = .returned (.bool false) ∧ Below W.heap.size W w') (cut : Int) (mask : ByteArray) (hm : mask.size ≤ 1000) (R : Su) (hRR : wrX ⟨x.f, x.s, x.ph, v, nv⟩ S cut mask = R) (ok : Bool) (hwr : wrE ⟨x.f, x.s, x.ph, v, nv⟩ S cut mask = ok) (w : World) (hN : NoneG w) (hd : x.ph = 0) :
    Calls Tryz.prog 30 #[suV x, saV a s t, .agg #[.int .i64 cut, .string mask]] w (CmdPost w (if ok then { R with ph := 1 } else R) (if ok then 0 else 26)) := by
  have hq := run_ne_st S x.s
  rw [hS] at hq
  cases ok
  case true =>
    have h3 : ¬ x.ph = 3 := by omega
    have HD := Lib.hid hd
    clear hd
    have kx := ((((Blk.new w 36 (suC x)).alloc (.cells (saC a s t) 53)).alloc (.cells #[.int .i64 cut, .string mask] 48)).alloc (.cells suZ 36)).alloc (.cells #[.int .i64 0] 40)
    have kc := (((Blk.new (w.alloc (.cells (suC x) 36)) 53 (saC a s t)).alloc (.cells #[.int .i64 cut, .string mask] 48)).alloc (.cells suZ 36)).alloc (.cells #[.int .i64 0] 40)
    have kp := ((Blk.new ((w.alloc (.cells (suC x) 36)).alloc (.cells (saC a s t) 53)) 48 #[.int .i64 cut, .string mask]).alloc (.cells suZ 36)).alloc (.cells #[.int .i64 0] 40)
    have ky := (Blk.new (((w.alloc (.cells (suC x) 36)).alloc (.cells (saC a s t) 53)).alloc (.cells #[.int .i64 cut, .string mask] 48)) 36 suZ).alloc (.cells #[.int .i64 0] 40)
    have ke := Blk.new ((((w.alloc (.cells (suC x) 36)).alloc (.cells (saC a s t) 53)).alloc (.cells #[.int .i64 cut, .string mask] 48)).alloc (.cells suZ 36)) 40 #[.int .i64 0]
    have B0 : Below w.heap.size w (((((w.alloc (.cells (suC x) 36)).alloc (.cells (saC a s t) 53)).alloc (.cells #[.int .i64 cut, .string mask] 48)).alloc (.cells suZ 36)).alloc (.cells #[.int .i64 0] 40)) := (((((Below.refl _ w).alloc (Nat.le_refl _) _).alloc (by simp) _).alloc (by simp; omega) _).alloc (by simp; omega) _).alloc (by simp; omega) _
    simp only [World.size_alloc] at kc kp ky ke
    go_enter_defers Tryz.func30, Tryz.ntmps30
    go_wp2_with (first | (refine wpList_load_row rfl 36 (.tmp 3) rfl w.heap.size rfl 36 (suC x) (0, 0) _ kx Tryz.underlying36 rfl (infoSu _) ?_) | (refine wpList_store_row rfl 36 (.tmp 6) (.tmp 10) rfl (w.heap.size + 1 + 1 + 1) (suC x) rfl rfl 36 _ ky (infoSu _) rfl (oneSu _) ?_; replace kx := kx.rowOther (w.heap.size + 1 + 1 + 1) (by omega) (suC x); replace kc := kc.rowOther (w.heap.size + 1 + 1 + 1) (by omega) (suC x); replace kp := kp.rowOther (w.heap.size + 1 + 1 + 1) (by omega) (suC x); replace ke := ke.rowOther (w.heap.size + 1 + 1 + 1) (by omega) (suC x); replace B0 := bel_row B0 (w.heap.size + 1 + 1 + 1) (by omega) (suC x); have ky1 := ky.row (suC x); clear ky; generalize World.setRow _ _ _ = W1 at *; have x_11 := kx.cell 11; simp at x_11))
    have q_12 : ∀ n : CalmW W1.heap.size W1, n.val.cell? ⟨w.heap.size, 12, none⟩ = some (.int .i64 x.vv) := fun n => ((kx.below n.below kx.lt).cell 12).trans (by simp)
    have q_13 : ∀ n : CalmW W1.heap.size W1, n.val.cell? ⟨w.heap.size, 13, none⟩ = some (.int .i64 x.vn) := fun n => ((kx.below n.below kx.lt).cell 13).trans (by simp)
    have r_0 : ∀ n : CalmW W1.heap.size W1, n.val.cell? ⟨w.heap.size + 1, 0, none⟩ = some (.float .f64 a) := fun n => ((kc.below n.below kc.lt).cell 0).trans (by simp)
    have r_1 : ∀ n : CalmW W1.heap.size W1, n.val.cell? ⟨w.heap.size + 1, 1, none⟩ = some (.float .f64 s) := fun n => ((kc.below n.below kc.lt).cell 1).trans (by simp)
    have r_2 : ∀ n : CalmW W1.heap.size W1, n.val.cell? ⟨w.heap.size + 1, 2, none⟩ = some (.float .f64 t) := fun n => ((kc.below n.below kc.lt).cell 2).trans (by simp)
    refine wp_region_calm_head W1.heap.size 6 1 #[true, true, true, true, true, true, false] (by kernel_rfl) (by kernel_rfl) rfl ?_
    simp only [List.take_succ_cons, List.take_zero]
    repeat (go_big_quiet_step (first | (with_reducible refine calm_of (Nat.le_refl _) (hV _)) | (with_reducible refine calm_of (Nat.le_refl _) (hA _))))
    refine wpQuiet_nil ?_
    intro W4 hw4
    obtain ⟨⟨W5, b4⟩, hw5⟩ := hw4
    obtain rfl : W4 = W5 := hw5
    clear q_12 q_13 r_0 r_1 r_2
    have kx4 := kx.below b4 kx.lt
    have kp4 := kp.below b4 kp.lt
    have ky4 := ky1.below b4 ky1.lt
    have ke4 := ke.below b4 ke.lt
    have B4 := bthen B0 b4
    clear kx kp ky1 ke B0 b4 kc x_11
    have s_12 := ky4.cell 12
    have s_13 := ky4.cell 13
    have f_12 := ky4.frozen 12
    have f_13 := ky4.frozen 13
    simp at s_12 s_13
    refine wpAny_ready (rs := [6]) (by kernel_rfl) (by simp) ?_
    refine AllReady.cons rfl (fun K hK => ?_) AllReady.nil
    go_simp
    refine hK _ _ ?_
    clear hK K
    refine wpAny_done (by kernel_rfl) ?_ _
    have ky : Blk ((W4.setCell ⟨w.heap.size + 1 + 1 + 1, 12, none⟩ (.int .i64 v)).setCell ⟨w.heap.size + 1 + 1 + 1, 13, none⟩ (.int .i64 nv)) (w.heap.size + 1 + 1 + 1) 36 (suC ⟨x.f, x.s, x.ph, v, nv⟩) := by simpa using (ky4.set 12 (.int .i64 v)).set 13 (.int .i64 nv)
    have kx := (kx4.other ⟨w.heap.size + 1 + 1 + 1, 12, none⟩ (by show w.heap.size ≠ w.heap.size + 1 + 1 + 1; omega) (.int .i64 v)).other ⟨w.heap.size + 1 + 1 + 1, 13, none⟩ (by show w.heap.size ≠ w.heap.size + 1 + 1 + 1; omega) (.int .i64 nv)
    have kp := (kp4.other ⟨w.heap.size + 1 + 1 + 1, 12, none⟩ (by show w.heap.size + 1 + 1 ≠ w.heap.size + 1 + 1 + 1; omega) (.int .i64 v)).other ⟨w.heap.size + 1 + 1 + 1, 13, none⟩ (by show w.heap.size + 1 + 1 ≠ w.heap.size + 1 + 1 + 1; omega) (.int .i64 nv)
    have ke := (ke4.other ⟨w.heap.size + 1 + 1 + 1, 12, none⟩ (by show w.heap.size + 1 + 1 + 1 + 1 ≠ w.heap.size + 1 + 1 + 1; omega) (.int .i64 v)).other ⟨w.heap.size + 1 + 1 + 1, 13, none⟩ (by show w.heap.size + 1 + 1 + 1 + 1 ≠ w.heap.size + 1 + 1 + 1; omega) (.int .i64 nv)
    have B0 := (B4.setCell (p := ⟨w.heap.size + 1 + 1 + 1, 12, none⟩) (by show w.heap.size ≤ w.heap.size + 1 + 1 + 1; omega) (.int .i64 v)).setCell (p := ⟨w.heap.size + 1 + 1 + 1, 13, none⟩) (by show w.heap.size ≤ w.heap.size + 1 + 1 + 1; omega) (.int .i64 nv)
    clear kx4 kp4 ky4 ke4 B4 s_12 s_13 f_12 f_13
    generalize World.setCell (World.setCell W4 _ _) _ _ = W6 at *
    have s_12 := ky.cell 12
    have s_13 := ky.cell 13
    have x_11 := kx.cell 11
    simp at s_12 s_13 x_11
    rw [HD.out] at x_11
    have x_5 := kx.cell 5
    have x_6 := kx.cell 6
    have x_7 := kx.cell 7
    have x_8 := kx.cell 8
    have x_9 := kx.cell 9
    have x_10 := kx.cell 10
    simp at x_5 x_6 x_7 x_8 x_9 x_10
    go_wp2_with (first | (((with_reducible refine (hD _).mono ?_); rintro e w7 ⟨rfl, q7⟩; have kx7 := kx.below q7 kx.lt; have kp7 := kp.below q7 kp.lt; have ky1 := ky.below q7 ky.lt; have ke7 := ke.below q7 ke.lt; have B7 := bthen B0 q7; clear kx kp ky B0 ke; have ke := ke7; have B0 := B7; clear ke7 B7 q7; have x_11 := kx7.cell 11; have e_0 := ke.cell 0; simp at x_11 e_0); rw [HD.out] at x_11; have v_5 := kx7.cell 5; have v_6 := kx7.cell 6; have v_7 := kx7.cell 7; have v_8 := kx7.cell 8; have v_9 := kx7.cell 9; have v_10 := kx7.cell 10; simp at v_5 v_6 v_7 v_8 v_9 v_10) | ((with_reducible refine (hR _).mono ?_); rintro e w8 ⟨rfl, q8⟩; have kx8 := kx7.below q8 kx7.lt; have kp8 := kp7.below q8 kp7.lt; have ky8 := ky1.below q8 ky1.lt; have ke8 := ke.below q8 ke.lt; have B8 := bthen B0 q8; clear kx7 kp7 ky1 ke B0 q8 x_11 e_0; have v_0 := kx8.cell 0; have v_1 := kx8.cell 1; have v_2 := kx8.cell 2; have v_3 := kx8.cell 3; have v_4 := kx8.cell 4; have v_11 := kx8.cell 11; have v_12 := kx8.cell 12; have v_13 := kx8.cell 13; have v_5 := kx8.cell 5; have v_6 := kx8.cell 6; have v_7 := kx8.cell 7; have v_8 := kx8.cell 8; have v_9 := kx8.cell 9; have v_10 := kx8.cell 10; simp at v_0 v_1 v_2 v_3 v_4 v_11 v_12 v_13 v_5 v_6 v_7 v_8 v_9 v_10; have l8 := kx8.lt; have g_0 := kp8.cell 0; have g_1 := kp8.cell 1; simp at g_0 g_1; have lp := kp8.lt; have e_0 := ke8.cell 0; simp at e_0; have le := ke8.lt; have y_11 := ky8.cell 11; have yf_11 := ky8.frozen 11; simp at y_11; have ly := ky8.lt) | ((with_reducible refine (hK _ (hN.below (B8.alloc B8.size (.cells (stC S) 32)))).mono ?_); rintro e w9 ⟨rfl, q9⟩; have kT := (Blk.new w8 32 (stC S)).below q9 (Blk.new w8 32 (stC S)).lt; have kp9 := (kp8.alloc (.cells (stC S) 32)).below q9 (kp8.alloc (.cells (stC S) 32)).lt; have kyA := (ky8.alloc (.cells (stC S) 32)).below q9 (ky8.alloc (.cells (stC S) 32)).lt; have keA := (ke8.alloc (.cells (stC S) 32)).below q9 (ke8.alloc (.cells (stC S) 32)).lt; have BA := bthen (B8.alloc B8.size (.cells (stC S) 32)) q9; have m_0 := kT.cell 0; have m_1 := kT.cell 1; have m_2 := kT.cell 2; have m_3 := kT.cell 3; have m_4 := kT.cell 4; have m_5 := kT.cell 5; have g_2 := kp9.cell 0; have g_3 := kp9.cell 1; simp at m_0 m_1 m_2 m_3 m_4 m_5 g_2 g_3) | (((have hW := write_any ⟨x.f, x.s, x.ph, v, nv⟩ hf S hSo cut mask hm _ (w.heap.size + 1 + 1 + 1) kyA (by omega) (hN.below BA); rw [hwr, hRR] at hW; simp only [wrEnd, if_true, if_false, Bool.false_eq_true] at hW; refine hW.mono ?_; rintro e w10 ⟨rfl, ky6, t6⟩; have ke6 := t6.blk keA (by omega); have B6 := t6.below BA (by omega))); (have z_11 := ky6.cell 11; have zf_11 := ky6.frozen 11; simp at z_11; have ky1 : Blk (w10.setCell ⟨w.heap.size + 1 + 1 + 1, 11, none⟩ (.int .i64 1)) (w.heap.size + 1 + 1 + 1) 36 (suC { R with ph := 1 }) := (by simpa using ky6.set 11 (.int .i64 1)); have ke := ke6.other ⟨w.heap.size + 1 + 1 + 1, 11, none⟩ (by show w.heap.size + 1 + 1 + 1 + 1 ≠ w.heap.size + 1 + 1 + 1; omega) (.int .i64 1); have B0 := B6.setCell (p := ⟨w.heap.size + 1 + 1 + 1, 11, none⟩) (by show w.heap.size ≤ w.heap.size + 1 + 1 + 1; omega) (.int .i64 1); have e_0 := ke6.cell 0; simp at e_0; have hne : w.heap.size + 1 + 1 + 1 + 1 ≠ w.heap.size + 1 + 1 + 1 := (by omega))) | (refine wpList_load_row rfl 36 (.tmp 6) rfl (w.heap.size + 1 + 1 + 1) rfl 36 (suC { R with ph := 1 }) (0, 0) _ ky1 Tryz.underlying36 rfl (infoSu _) ?_) | (refine wpList_store_row rfl 36 (.tmp 6) (.tmp 51) rfl (w.heap.size + 1 + 1 + 1) (suC { R with ph := 1 }) rfl rfl 36 _ ky1 (infoSu _) rfl (oneSu _) ?_; replace ke := ke.rowOther (w.heap.size + 1 + 1 + 1) (by omega) (suC { R with ph := 1 }); replace B0 := bel_row B0 (w.heap.size + 1 + 1 + 1) (by omega) (suC { R with ph := 1 }); replace ky1 := ky1.row (suC { R with ph := 1 }); generalize World.setRow _ _ _ = W8 at *; have e_0 := ke.cell 0; have f_0 := ke.frozen 0; simp at e_0))
    refine leaves_cons (f := 24) (args := #[.pointer (some ⟨w.heap.size + 1 + 1 + 1 + 1, 0, none⟩)]) (by simp) (by simp [go_sem]) ?_
    refine (guard_idle ⟨w.heap.size + 1 + 1 + 1 + 1, 0, none⟩ _).mono ?_
    rintro e u' w9 ⟨rfl, rfl, rfl⟩
    have ke9 := ke.set 0 (.int .i64 0)
    have ky9 := ky1.other ⟨w.heap.size + 1 + 1 + 1 + 1, 0, none⟩ (by show w.heap.size + 1 + 1 + 1 ≠ w.heap.size + 1 + 1 + 1 + 1; omega) (.int .i64 0)
    have B9 := B0.setCell (p := ⟨w.heap.size + 1 + 1 + 1 + 1, 0, none⟩) (by simp; omega) (.int .i64 0)
    generalize World.setCell _ ⟨w.heap.size + 1 + 1 + 1 + 1, 0, none⟩ (.int .i64 0) = w3 at *
    have l9 := load_errno w3 ⟨w.heap.size + 1 + 1 + 1 + 1, 0, none⟩ 0 ((ke9.cell 0).trans (by simp))
    exact ⟨_, results_cell_cell rfl _ _ (w.heap.size + 1 + 1 + 1) 36 (suC { R with ph := 1 }) (0, 0) _ ⟨w.heap.size + 1 + 1 + 1 + 1, 0, none⟩ _ rfl rfl ky9 Tryz.underlying36 rfl (infoSu _) l9, rfl, B9⟩
  case false =>
    have h3 : ¬ x.ph = 3 := by omega
    have HD := Lib.hid hd
    clear hd
    have kx := ((((Blk.new w 36 (suC x)).alloc (.cells (saC a s t) 53)).alloc (.cells #[.int .i64 cut, .string mask] 48)).alloc (.cells suZ 36)).alloc (.cells #[.int .i64 0] 40)
    have kc := (((Blk.new (w.alloc (.cells (suC x) 36)) 53 (saC a s t)).alloc (.cells #[.int .i64 cut, .string mask] 48)).alloc (.cells suZ 36)).alloc (.cells #[.int .i64 0] 40)
    have kp := ((Blk.new ((w.alloc (.cells (suC x) 36)).alloc (.cells (saC a s t) 53)) 48 #[.int .i64 cut, .string mask]).alloc (.cells suZ 36)).alloc (.cells #[.int .i64 0] 40)
    have ky := (Blk.new (((w.alloc (.cells (suC x) 36)).alloc (.cells (saC a s t) 53)).alloc (.cells #[.int .i64 cut, .string mask] 48)) 36 suZ).alloc (.cells #[.int .i64 0] 40)
    have ke := Blk.new ((((w.alloc (.cells (suC x) 36)).alloc (.cells (saC a s t) 53)).alloc (.cells #[.int .i64 cut, .string mask] 48)).alloc (.cells suZ 36)) 40 #[.int .i64 0]
    have B0 : Below w.heap.size w (((((w.alloc (.cells (suC x) 36)).alloc (.cells (saC a s t) 53)).alloc (.cells #[.int .i64 cut, .string mask] 48)).alloc (.cells suZ 36)).alloc (.cells #[.int .i64 0] 40)) := (((((Below.refl _ w).alloc (Nat.le_refl _) _).alloc (by simp) _).alloc (by simp; omega) _).alloc (by simp; omega) _).alloc (by simp; omega) _
    simp only [World.size_alloc] at kc kp ky ke
    go_enter_defers Tryz.func30, Tryz.ntmps30
    go_wp2_with (first | (refine wpList_load_row rfl 36 (.tmp 3) rfl w.heap.size rfl 36 (suC x) (0, 0) _ kx Tryz.underlying36 rfl (infoSu _) ?_) | (refine wpList_store_row rfl 36 (.tmp 6) (.tmp 10) rfl (w.heap.size + 1 + 1 + 1) (suC x) rfl rfl 36 _ ky (infoSu _) rfl (oneSu _) ?_; replace kx := kx.rowOther (w.heap.size + 1 + 1 + 1) (by omega) (suC x); replace kc := kc.rowOther (w.heap.size + 1 + 1 + 1) (by omega) (suC x); replace kp := kp.rowOther (w.heap.size + 1 + 1 + 1) (by omega) (suC x); replace ke := ke.rowOther (w.heap.size + 1 + 1 + 1) (by omega) (suC x); replace B0 := bel_row B0 (w.heap.size + 1 + 1 + 1) (by omega) (suC x); have ky1 := ky.row (suC x); clear ky; generalize World.setRow _ _ _ = W1 at *; have x_11 := kx.cell 11; simp at x_11))
    have q_12 : ∀ n : CalmW W1.heap.size W1, n.val.cell? ⟨w.heap.size, 12, none⟩ = some (.int .i64 x.vv) := fun n => ((kx.below n.below kx.lt).cell 12).trans (by simp)
    have q_13 : ∀ n : CalmW W1.heap.size W1, n.val.cell? ⟨w.heap.size, 13, none⟩ = some (.int .i64 x.vn) := fun n => ((kx.below n.below kx.lt).cell 13).trans (by simp)
    have r_0 : ∀ n : CalmW W1.heap.size W1, n.val.cell? ⟨w.heap.size + 1, 0, none⟩ = some (.float .f64 a) := fun n => ((kc.below n.below kc.lt).cell 0).trans (by simp)
    have r_1 : ∀ n : CalmW W1.heap.size W1, n.val.cell? ⟨w.heap.size + 1, 1, none⟩ = some (.float .f64 s) := fun n => ((kc.below n.below kc.lt).cell 1).trans (by simp)
    have r_2 : ∀ n : CalmW W1.heap.size W1, n.val.cell? ⟨w.heap.size + 1, 2, none⟩ = some (.float .f64 t) := fun n => ((kc.below n.below kc.lt).cell 2).trans (by simp)
    refine wp_region_calm_head W1.heap.size 6 1 #[true, true, true, true, true, true, false] (by kernel_rfl) (by kernel_rfl) rfl ?_
    simp only [List.take_succ_cons, List.take_zero]
    repeat (go_big_quiet_step (first | (with_reducible refine calm_of (Nat.le_refl _) (hV _)) | (with_reducible refine calm_of (Nat.le_refl _) (hA _))))
    refine wpQuiet_nil ?_
    intro W4 hw4
    obtain ⟨⟨W5, b4⟩, hw5⟩ := hw4
    obtain rfl : W4 = W5 := hw5
    clear q_12 q_13 r_0 r_1 r_2
    have kx4 := kx.below b4 kx.lt
    have kp4 := kp.below b4 kp.lt
    have ky4 := ky1.below b4 ky1.lt
    have ke4 := ke.below b4 ke.lt
    have B4 := bthen B0 b4
    clear kx kp ky1 ke B0 b4 kc x_11
    have s_12 := ky4.cell 12
    have s_13 := ky4.cell 13
    have f_12 := ky4.frozen 12
    have f_13 := ky4.frozen 13
    simp at s_12 s_13
    refine wpAny_ready (rs := [6]) (by kernel_rfl) (by simp) ?_
    refine AllReady.cons rfl (fun K hK => ?_) AllReady.nil
    go_simp
    refine hK _ _ ?_
    clear hK K
    refine wpAny_done (by kernel_rfl) ?_ _
    have ky : Blk ((W4.setCell ⟨w.heap.size + 1 + 1 + 1, 12, none⟩ (.int .i64 v)).setCell ⟨w.heap.size + 1 + 1 + 1, 13, none⟩ (.int .i64 nv)) (w.heap.size + 1 + 1 + 1) 36 (suC ⟨x.f, x.s, x.ph, v, nv⟩) := by simpa using (ky4.set 12 (.int .i64 v)).set 13 (.int .i64 nv)
    have kx := (kx4.other ⟨w.heap.size + 1 + 1 + 1, 12, none⟩ (by show w.heap.size ≠ w.heap.size + 1 + 1 + 1; omega) (.int .i64 v)).other ⟨w.heap.size + 1 + 1 + 1, 13, none⟩ (by show w.heap.size ≠ w.heap.size + 1 + 1 + 1; omega) (.int .i64 nv)
    have kp := (kp4.other ⟨w.heap.size + 1 + 1 + 1, 12, none⟩ (by show w.heap.size + 1 + 1 ≠ w.heap.size + 1 + 1 + 1; omega) (.int .i64 v)).other ⟨w.heap.size + 1 + 1 + 1, 13, none⟩ (by show w.heap.size + 1 + 1 ≠ w.heap.size + 1 + 1 + 1; omega) (.int .i64 nv)
    have ke := (ke4.other ⟨w.heap.size + 1 + 1 + 1, 12, none⟩ (by show w.heap.size + 1 + 1 + 1 + 1 ≠ w.heap.size + 1 + 1 + 1; omega) (.int .i64 v)).other ⟨w.heap.size + 1 + 1 + 1, 13, none⟩ (by show w.heap.size + 1 + 1 + 1 + 1 ≠ w.heap.size + 1 + 1 + 1; omega) (.int .i64 nv)
    have B0 := (B4.setCell (p := ⟨w.heap.size + 1 + 1 + 1, 12, none⟩) (by show w.heap.size ≤ w.heap.size + 1 + 1 + 1; omega) (.int .i64 v)).setCell (p := ⟨w.heap.size + 1 + 1 + 1, 13, none⟩) (by show w.heap.size ≤ w.heap.size + 1 + 1 + 1; omega) (.int .i64 nv)
    clear kx4 kp4 ky4 ke4 B4 s_12 s_13 f_12 f_13
    generalize World.setCell (World.setCell W4 _ _) _ _ = W6 at *
    have s_12 := ky.cell 12
    have s_13 := ky.cell 13
    have x_11 := kx.cell 11
    simp at s_12 s_13 x_11
    rw [HD.out] at x_11
    have x_5 := kx.cell 5
    have x_6 := kx.cell 6
    have x_7 := kx.cell 7
    have x_8 := kx.cell 8
    have x_9 := kx.cell 9
    have x_10 := kx.cell 10
    simp at x_5 x_6 x_7 x_8 x_9 x_10
    go_wp2_with (first | (((with_reducible refine (hD _).mono ?_); rintro e w7 ⟨rfl, q7⟩; have kx7 := kx.below q7 kx.lt; have kp7 := kp.below q7 kp.lt; have ky1 := ky.below q7 ky.lt; have ke7 := ke.below q7 ke.lt; have B7 := bthen B0 q7; clear kx kp ky B0 ke; have ke := ke7; have B0 := B7; clear ke7 B7 q7; have x_11 := kx7.cell 11; have e_0 := ke.cell 0; simp at x_11 e_0); rw [HD.out] at x_11; have v_5 := kx7.cell 5; have v_6 := kx7.cell 6; have v_7 := kx7.cell 7; have v_8 := kx7.cell 8; have v_9 := kx7.cell 9; have v_10 := kx7.cell 10; simp at v_5 v_6 v_7 v_8 v_9 v_10) | ((with_reducible refine (hR _).mono ?_); rintro e w8 ⟨rfl, q8⟩; have kx8 := kx7.below q8 kx7.lt; have kp8 := kp7.below q8 kp7.lt; have ky8 := ky1.below q8 ky1.lt; have ke8 := ke.below q8 ke.lt; have B8 := bthen B0 q8; clear kx7 kp7 ky1 ke B0 q8 x_11 e_0; have v_0 := kx8.cell 0; have v_1 := kx8.cell 1; have v_2 := kx8.cell 2; have v_3 := kx8.cell 3; have v_4 := kx8.cell 4; have v_11 := kx8.cell 11; have v_12 := kx8.cell 12; have v_13 := kx8.cell 13; have v_5 := kx8.cell 5; have v_6 := kx8.cell 6; have v_7 := kx8.cell 7; have v_8 := kx8.cell 8; have v_9 := kx8.cell 9; have v_10 := kx8.cell 10; simp at v_0 v_1 v_2 v_3 v_4 v_11 v_12 v_13 v_5 v_6 v_7 v_8 v_9 v_10; have l8 := kx8.lt; have g_0 := kp8.cell 0; have g_1 := kp8.cell 1; simp at g_0 g_1; have lp := kp8.lt; have e_0 := ke8.cell 0; simp at e_0; have le := ke8.lt; have y_11 := ky8.cell 11; have yf_11 := ky8.frozen 11; simp at y_11; have ly := ky8.lt) | ((with_reducible refine (hK _ (hN.below (B8.alloc B8.size (.cells (stC S) 32)))).mono ?_); rintro e w9 ⟨rfl, q9⟩; have kT := (Blk.new w8 32 (stC S)).below q9 (Blk.new w8 32 (stC S)).lt; have kp9 := (kp8.alloc (.cells (stC S) 32)).below q9 (kp8.alloc (.cells (stC S) 32)).lt; have kyA := (ky8.alloc (.cells (stC S) 32)).below q9 (ky8.alloc (.cells (stC S) 32)).lt; have keA := (ke8.alloc (.cells (stC S) 32)).below q9 (ke8.alloc (.cells (stC S) 32)).lt; have BA := bthen (B8.alloc B8.size (.cells (stC S) 32)) q9; have m_0 := kT.cell 0; have m_1 := kT.cell 1; have m_2 := kT.cell 2; have m_3 := kT.cell 3; have m_4 := kT.cell 4; have m_5 := kT.cell 5; have g_2 := kp9.cell 0; have g_3 := kp9.cell 1; simp at m_0 m_1 m_2 m_3 m_4 m_5 g_2 g_3) | (((have hW := write_any ⟨x.f, x.s, x.ph, v, nv⟩ hf S hSo cut mask hm _ (w.heap.size + 1 + 1 + 1) kyA (by omega) (hN.below BA); rw [hwr, hRR] at hW; simp only [wrEnd, if_true, if_false, Bool.false_eq_true] at hW; refine hW.mono ?_; rintro e w10 ⟨rfl, ky6, t6⟩; have ke6 := t6.blk keA (by omega); have B6 := t6.below BA (by omega))); (have ky1 := ky6; have ke := ke6; have B0 := B6)))
    refine leaves_cons (f := 24) (args := #[.pointer (some ⟨w.heap.size + 1 + 1 + 1 + 1, 0, none⟩)]) (by simp) (by simp [go_sem]) ?_
    refine (guard_panicking ⟨w.heap.size + 1 + 1 + 1 + 1, 0, none⟩ 0 26 [] _ (ke.cell 0) (ke.frozen 0) ke.lt).mono ?_
    rintro e u' w9 ⟨rfl, rfl, rfl⟩
    have ke9 := (ke.alloc (.cells #[.int .i64 26] 67)).set 0 (.int .i64 26)
    have ky9 := (ky1.alloc (.cells #[.int .i64 26] 67)).other ⟨w.heap.size + 1 + 1 + 1 + 1, 0, none⟩ (by show w.heap.size + 1 + 1 + 1 ≠ w.heap.size + 1 + 1 + 1 + 1; omega) (.int .i64 26)
    have B9 := (B0.alloc B0.size (.cells #[.int .i64 26] 67)).setCell (p := ⟨w.heap.size + 1 + 1 + 1 + 1, 0, none⟩) (by simp; omega) (.int .i64 26)
    generalize World.setCell _ ⟨w.heap.size + 1 + 1 + 1 + 1, 0, none⟩ (.int .i64 26) = w3 at *
    have l9 := load_errno w3 ⟨w.heap.size + 1 + 1 + 1 + 1, 0, none⟩ 26 ((ke9.cell 0).trans (by simp))
    exact ⟨_, results_cell_cell rfl _ _ (w.heap.size + 1 + 1 + 1) 36 (suC R) (0, 0) _ ⟨w.heap.size + 1 + 1 + 1 + 1, 0, none⟩ _ rfl rfl ky9 Tryz.underlying36 rfl (infoSu _) l9, rfl, B9⟩
end Go.Proofs.YtebkeocpojlepaaGreatDoor

/- super.Sample: what it answers, joined. -/
namespace Go.Proofs.YtebkeocpojlepaaGreatDoor
open Go.RowKit
set_option linter.unusedVariables false
set_option linter.unusedSimpArgs false

theorem resolve_ok (s : St) (hs : s.ok) (v : Int) : (resolveS s v).ok := by
  unfold resolveS
  split
  · refine ⟨?_, hs.ha, hs.ho, hs.hi⟩
    show (Lit.int .i64 (safeI s)).wf = true
    unfold safeI safeV
    split
    · exact hs.hm
    · split <;> decide
  · split
    · exact ⟨by show (Lit.int .i64 0).wf = true; decide, hs.ha, hs.ho, hs.hi⟩
    · exact hs

theorem Sample_any (x : Su) (hf : x.f.ok) (hs : x.s.ok) (a s t : Nat) (v : Int) (hv : v = 1 ∨ v = 2) (hV : ∀ W, Calls Tryz.prog 47 #[saV a s t] W fun e w' => e = .returned (.int .i64 v) ∧ Below W.heap.size W w')
    (hn : 0 ≤ x.vn ∧ x.vn ≤ 2) (cut : Int) (mask : ByteArray) (hm : mask.size ≤ 1000) (w : World) (hN : NoneG w) :
    Calls Tryz.prog 30 #[suV x, saV a s t, .agg #[.int .i64 cut, .string mask]] w (CmdPost w (smpX x v cut mask) (smpE x v cut mask)) := by
  have hA := fun W => Add_one x.vv x.vn v hv hn W
  have hD0 := fun W => Verdict_any v (agreeI x.vv x.vn v) hv W
  by_cases h3 : x.ph = 3
  · have e1 : smpX x v cut mask = x := by unfold smpX; rw [if_pos h3]
    have e2 : smpE x v cut mask = 26 := by unfold smpE; rw [if_pos h3]
    rw [e1, e2]; exact smp_off x a s t cut mask w h3
  · by_cases h0 : x.ph ≠ 0 ∨ agreeI x.vv x.vn v < 3
    · have e1 : smpX x v cut mask = votX x v := by unfold smpX; rw [if_neg h3, if_pos h0]
      have e2 : smpE x v cut mask = 0 := by unfold smpE; rw [if_neg h3, if_pos h0]
      rw [e1, e2]
      refine smp_early x a s t v _ hV hA _ hD0 cut mask w h3 ?_
      by_cases hp : x.ph = 0
      · right
        rcases h0 with h0 | h0
        · exact absurd hp h0
        · exact ⟨hp, if_pos h0⟩
      · exact .inl hp
    · have hp : x.ph = 0 := by
        by_cases hp : x.ph = 0
        · exact hp
        · exact absurd (.inl hp) h0
      have h3n : ¬ agreeI x.vv x.vn v < 3 := fun h => h0 (.inr h)
      have hD : ∀ W, Calls Tryz.prog 48 #[.agg #[.int .i64 v, .int .i64 (agreeI x.vv x.vn v)]] W fun e w' => e = .returned (.int .i64 v) ∧ Below W.heap.size W w' := by
        intro W; have := hD0 W; rw [if_neg h3n] at this; exact this
      have hv0 : (v == 0) = false := by rcases hv with rfl | rfl <;> rfl
      have hR := fun W => Resolve_any x.s v W
      have hSo := resolve_ok x.s hs v
      have hK := fun W hNW => Kept_any x hf hs W hNW
      cases hm1 : moreB x v
      case false =>
        have e1 : smpX x v cut mask = { votX x v with ph := 1 } := by unfold smpX; rw [if_neg h3, if_neg h0, if_pos hm1]
        have e2 : smpE x v cut mask = 0 := by unfold smpE; rw [if_neg h3, if_neg h0, if_pos hm1]
        rw [e1, e2]
        unfold moreB at hm1
        simp only [Bool.or_eq_false_iff, Bool.not_eq_false'] at hm1
        have hK1 : ∀ W, NoneG W → Calls Tryz.prog 50 #[suV x] W fun e w' => e = .returned (.bool true) ∧ Below W.heap.size W w' := by
          intro W hW; have := hK W hW; rw [hm1.2] at this; exact this
        exact smp_same x a s t v _ hV hA hD hv0 _ hR hm1.1 hK1 cut mask w hN hp
      case true =>
        have hmn : ¬ moreB x v = false := by rw [hm1]; simp
        have e1 : smpX x v cut mask = if wrE (votX x v) (resolveS x.s v) cut mask then { wrX (votX x v) (resolveS x.s v) cut mask with ph := 1 } else wrX (votX x v) (resolveS x.s v) cut mask := by unfold smpX; rw [if_neg h3, if_neg h0, if_neg hmn]
        have e2 : smpE x v cut mask = if wrE (votX x v) (resolveS x.s v) cut mask then 0 else 26 := by unfold smpE; rw [if_neg h3, if_neg h0, if_neg hmn]
        rw [e1, e2]
        cases hq : eqSt (resolveS x.s v) x.s
        case false => exact smp_new x a s t v _ hV hA hD hv0 _ hR hq hf hSo cut mask hm _ rfl _ rfl w hN hp
        case true =>
          have hk0 : keptB x = false := by
            unfold moreB at hm1; rw [hq] at hm1; simpa using hm1
          have hK0 : ∀ W, NoneG W → Calls Tryz.prog 50 #[suV x] W fun e w' => e = .returned (.bool false) ∧ Below W.heap.size W w' := by
            intro W hW; have := hK W hW; rw [hk0] at this; exact this
          exact smp_lost x a s t v _ hV hA hD hv0 _ hR hq hf hSo hK0 cut mask hm _ rfl _ rfl w hN hp
end Go.Proofs.YtebkeocpojlepaaGreatDoor
