/- Contracts and plain laws, put together: TopH. -/
import Derived.Test.YtebkeocpojlepaaGreatDoorG26
import Derived.Test.YtebkeocpojlepaaGreatDoorG24
import Derived.Test.YtebkeocpojlepaaGreatDoorG25
import Derived.Test.YtebkeocpojlepaaGreatDoorG04
/- The walk of TopEach (printed by wip/tools/gen_each.py). -/
namespace Go.Proofs.YtebkeocpojlepaaGreatDoor
open Go.RowKit
set_option linter.unusedVariables false
set_option linter.unusedSimpArgs false

set_option maxRecDepth 100000 in
set_option maxHeartbeats 16000000 in
theorem each_main (n : Int) (v : Value) (l : List Cm) (c : Cm) (mask : ByteArray) (hn : 0 ≤ n ∧ n < 256) (hok : ∀ x ∈ l, x.ok) (hl : l.length ≤ 30) (hc : c.ok) (hm : mask.size ≤ 500) (w : World) (hN : NoneG w) (hA : CmsV w v l) :
    Calls Tryz.prog 3 #[.int .u8 n, v, cmV c, .string mask] w fun e w' => e = .returned (.bool true) ∧ Below w.heap.size w w' := by
  obtain ⟨vp, vc, hvv⟩ : ∃ vp vc, v = .slice vp l.length vc := by
    rcases hA with ⟨rfl, rfl⟩ | ⟨b, o, cap, rfl, _⟩
    · exact ⟨none, 0, rfl⟩
    · exact ⟨_, _, rfl⟩
  have hSh := shown_any
  obtain ⟨q, hq⟩ : ∃ q : Nat, n.tmod 12 = (q : Int) := ⟨(n.tmod 12).toNat, by rw [Int.tmod_eq_emod_of_nonneg (by omega)]; omega⟩
  have hq11 : q ≤ 11 := by rw [Int.tmod_eq_emod_of_nonneg (by omega)] at hq; omega
  have hSt := stood_any (1 + (q : Int)) (q + 1) (by omega) (by omega) (by omega) 100 (by decide) (by decide)
  obtain ⟨K0, o0, K1, o1⟩ := start_plain q hq11 100 (by decide) (by decide) l hl
  have hAs := fun W hNW hAW => asked_any (q + 1) 100 1 _ K0 o0 l hl hok (by omega) (by decide) v W hNW hAW
  generalize seenX (newL (q + 1) 100) 1 = x0 at *
  generalize askX x0 l l.length = X0 at *
  have hIts := its_any X0.s
  have hDl := rDelta_any _ (legal_ok K1.leg) (legal_iso K1.leg) c hc
  unfold DPost at hDl
  have hPl := fun (k : Nat) (hE : deltaE X0.s c = 0) (hS : eqSt X0.s (deltaS X0.s c) = false) => each_plain K1 (by decide) (by decide) c hE hS (k : Int) mask
  have hC := fun (k : Nat) => Command_any X0 o1 (legal_iso K1.leg) c hc (legal_ok (delta_legal K1.leg c)) (k : Int) mask (by omega)
  have oY := fun (k : Nat) => cmdX_ok o1 c (k : Int) mask
  have hBt := fun (k : Nat) => Boot_any _ (oY k)
  have hph := K1.ph
  unfold CmdPost at hC
  generalize hT : deltaS X0.s c = t at *
  generalize hEE : deltaE X0.s c = E at *
  have hEt := run_eq_r14 X0.s t
  have hwr : IntKind.i64.wrap (1 + (q : Int)) = 1 + (q : Int) := wrap_small _ (by omega) (by omega)
  have d1 : decide (30 < l.length) = false := by simp; omega
  have d2 : decide ((30 : Int) < (l.length : Int)) = false := by simp; omega
  have d3 : decide ((500 : Int) < (mask.size : Int)) = false := by simp; omega
  have d4 : decide (500 < mask.size) = false := by simp; omega
  have HPl := Lib.hid hPl
  have Hph := Lib.hid hph
  clear K0 o0 K1 o1 oY hT hEE hPl hph
  subst hvv
  have kc0 := Blk.new w 25 (cmC c)
  have B0 : Below w.heap.size w (w.alloc (.cells (cmC c) 25)) := (Below.refl _ w).alloc (Nat.le_refl _) _
  go_enter Tryz.func3, Tryz.ntmps3
  go_wp2_with fail
  generalize World.alloc w _ = W0 at *
  go_wp2_with fail
  with_reducible refine (hSh _ (hN.below B0)).mono ?_
  rintro e w1 ⟨rfl, q2⟩
  have k3 := kc0.below q2 kc0.lt
  have B4 := bthen B0 q2
  clear q2 kc0
  go_wp2_with fail
  with_reducible refine (hSt _ (hN.below B4)).mono ?_
  rintro e w5 ⟨rfl, q6⟩
  have k7 := k3.below q6 k3.lt
  have B8 := bthen B4 q6
  clear q6 k3
  go_wp2_with fail
  with_reducible refine (hAs _ (hN.below B8) (hA.below B8)).mono ?_
  rintro e w9 ⟨rfl, q10⟩
  have k11 := k7.below q10 k7.lt
  have B12 := bthen B8 q10
  clear q10 k7
  have k13 := k11.alloc (.cells suZ 36)
  have k14 := Blk.new w9 36 suZ
  have B15 := B12.alloc B12.size (.cells suZ 36)
  have h16 : w.heap.size ≤ w9.heap.size := B12.size
  have h17 : w.heap.size < w9.heap.size := k11.lt
  clear k11 B12
  go_wp2_with (first | (refine wpList_store_row rfl 36 (.tmp 9) (.tmp 35) rfl w9.heap.size (suC X0) rfl rfl 36 _ k14 (infoSu _) rfl (oneSu _) ?_; have k18 := k13.rowOther w9.heap.size (by omega) (suC X0); have k19 := k14.row (suC X0); have B20 := bel_row B15 w9.heap.size h16 (suC X0); clear k13 k14 B15; generalize World.setRow _ _ _ = W21 at *; generalize w9.heap.size = gX at *) | fail)
  go_simp
  refine wp_region_chain W21.heap.size 8 9 [true, true, true, true, true, true, true, true, false, false, false] [false, false, false, false, false, false, false, false, false, false, true] #[true, true, true, true, true, true, true, true, false, false, false] #[true, true, true, true, true, true, true, true, true, true, true]
    (fun v w' => ∃ g, v = .pointer (some ⟨g, 0, none⟩) ∧ W21.heap.size ≤ g ∧ Blk w' g 39 zStC) (fun v w' => ∃ g, v = .pointer (some ⟨g, 0, none⟩) ∧ W21.heap.size ≤ g ∧ Blk w' g 39 (stC t)) (by kernel_rfl) (by kernel_rfl) rfl (Nat.le_refl _) rfl rfl ?_ ?_ (by kernel_rfl) ?_
  case refine_1 => rintro v w1 w2 ⟨g, rfl, hg, hB⟩ hb; exact ⟨g, rfl, hg, hB.below hb hB.lt⟩
  case refine_2 => rintro v w1 w2 ⟨g, rfl, hg, hB⟩ hb; exact ⟨g, rfl, hg, hB.below hb hB.lt⟩
  apply Exists.intro
  refine ⟨?_, ?_, ?_⟩
  case refine_1 =>
    intro Z hZ hNE
    have u_5 : ∀ m : CalmX W21.heap.size W21 Z, m.val.cell? ⟨gX, 5, none⟩ = some (.int .i64 X0.s.mode) := fun m => ((k19.below m.below k19.lt).cell 5).trans (by simp)
    have u_6 : ∀ m : CalmX W21.heap.size W21 Z, m.val.cell? ⟨gX, 6, none⟩ = some (.bool X0.s.armed) := fun m => ((k19.below m.below k19.lt).cell 6).trans (by simp)
    have u_7 : ∀ m : CalmX W21.heap.size W21 Z, m.val.cell? ⟨gX, 7, none⟩ = some (.bool X0.s.home) := fun m => ((k19.below m.below k19.lt).cell 7).trans (by simp)
    have u_8 : ∀ m : CalmX W21.heap.size W21 Z, m.val.cell? ⟨gX, 8, none⟩ = some (.int .i64 X0.s.lat) := fun m => ((k19.below m.below k19.lt).cell 8).trans (by simp)
    have u_9 : ∀ m : CalmX W21.heap.size W21 Z, m.val.cell? ⟨gX, 9, none⟩ = some (.int .i64 X0.s.lon) := fun m => ((k19.below m.below k19.lt).cell 9).trans (by simp)
    have u_10 : ∀ m : CalmX W21.heap.size W21 Z, m.val.cell? ⟨gX, 10, none⟩ = some (.int .i64 X0.s.iso) := fun m => ((k19.below m.below k19.lt).cell 10).trans (by simp)
    have v_0 : ∀ m : CalmX W21.heap.size W21 Z, m.val.cell? ⟨w.heap.size, 0, none⟩ = some (.int .i64 c.kind) := fun m => ((k18.below m.below k18.lt).cell 0).trans (by simp)
    have v_1 : ∀ m : CalmX W21.heap.size W21 Z, m.val.cell? ⟨w.heap.size, 1, none⟩ = some (.int .i64 c.n) := fun m => ((k18.below m.below k18.lt).cell 1).trans (by simp)
    have v_2 : ∀ m : CalmX W21.heap.size W21 Z, m.val.cell? ⟨w.heap.size, 2, none⟩ = some (.float .f64 c.lat) := fun m => ((k18.below m.below k18.lt).cell 2).trans (by simp)
    have v_3 : ∀ m : CalmX W21.heap.size W21 Z, m.val.cell? ⟨w.heap.size, 3, none⟩ = some (.float .f64 c.lon) := fun m => ((k18.below m.below k18.lt).cell 3).trans (by simp)
    simp only [keepM]
    repeat (go_big_quiet_step (first | (with_reducible refine calmX_of hZ (Nat.le_refl _) (hIts _)) | (with_reducible refine calmX_of hZ (Nat.le_refl _) (hDl _))))
    exact wpQuiet_nil rfl
  case refine_2 =>
    refine ⟨rfl, ?_⟩
    intro w1 hb
    refine ⟨.pointer (some ⟨w1.heap.size, 0, none⟩), w1.alloc (.cells zStC 39), ?_, (Below.refl _ _).alloc (Nat.le_refl _) _, ⟨_, rfl, hb.size, Blk.new _ _ _⟩⟩
    go_simp
  rintro v hNE
  obtain ⟨⟨wv, _, gT, rfl, gT0, _⟩⟩ := hNE
  refine ⟨⟨rfl, ?_⟩, ?_⟩
  · rintro w1 ⟨⟨w2, b2, g', e, hg, kT2⟩, rfl⟩
    cases e
    refine ⟨undef, _, .inr ⟨rfl, run_store_row 39 (.tmp 10) (.tmp 42) rfl gT (stC t) rfl rfl 39 _ kT2 (infoR _) rfl (oneSt _)⟩, ?_⟩
    exact ⟨⟨_, bel_row b2 gT hg _, gT, rfl, hg, kT2.row _⟩, rfl⟩
  intro u hNE2
  simp only [keepM, Act.put, List.setIfInBounds_toArray, List.set_cons_succ, List.set_cons_zero]
  repeat (go_big_quiet_step (fail))
  refine wpQuiet_nil ?_
  rintro W22 ⟨⟨w6, b23, g', e, h24, k25⟩, rfl⟩
  cases e
  have k26 := k18.below b23 k18.lt
  have k27 := k19.below b23 k19.lt
  have B28 := B20.trans (b23.mono B20.size)
  have h29 : w.heap.size < gT := Nat.lt_of_lt_of_le k18.lt h24
  have h30 : gX < gT := Nat.lt_of_lt_of_le k19.lt h24
  clear k18 k19 b23
  have hq14 : eqSt X0.s t = true ∨ eqSt X0.s t = false := by cases eqSt X0.s t <;> simp
  by_cases hE : E = 0
  · subst hE
    rcases hq14 with h14 | h14
    · rw [h14] at hEt
      go_wp2_with fail
      have u_5 : ∀ m : CalmW W22.heap.size W22, m.val.cell? ⟨gX, 5, none⟩ = some (.int .i64 X0.s.mode) := fun m => ((k27.below m.below k27.lt).cell 5).trans (by simp)
      have u_6 : ∀ m : CalmW W22.heap.size W22, m.val.cell? ⟨gX, 6, none⟩ = some (.bool X0.s.armed) := fun m => ((k27.below m.below k27.lt).cell 6).trans (by simp)
      have u_7 : ∀ m : CalmW W22.heap.size W22, m.val.cell? ⟨gX, 7, none⟩ = some (.bool X0.s.home) := fun m => ((k27.below m.below k27.lt).cell 7).trans (by simp)
      have u_8 : ∀ m : CalmW W22.heap.size W22, m.val.cell? ⟨gX, 8, none⟩ = some (.int .i64 X0.s.lat) := fun m => ((k27.below m.below k27.lt).cell 8).trans (by simp)
      have u_9 : ∀ m : CalmW W22.heap.size W22, m.val.cell? ⟨gX, 9, none⟩ = some (.int .i64 X0.s.lon) := fun m => ((k27.below m.below k27.lt).cell 9).trans (by simp)
      have u_10 : ∀ m : CalmW W22.heap.size W22, m.val.cell? ⟨gX, 10, none⟩ = some (.int .i64 X0.s.iso) := fun m => ((k27.below m.below k27.lt).cell 10).trans (by simp)
      have x_0 : ∀ m : CalmW W22.heap.size W22, m.val.cell? ⟨gT, 0, none⟩ = some (.int .i64 t.mode) := fun m => ((k25.below m.below k25.lt).cell 0).trans (by simp)
      have x_1 : ∀ m : CalmW W22.heap.size W22, m.val.cell? ⟨gT, 1, none⟩ = some (.bool t.armed) := fun m => ((k25.below m.below k25.lt).cell 1).trans (by simp)
      have x_2 : ∀ m : CalmW W22.heap.size W22, m.val.cell? ⟨gT, 2, none⟩ = some (.bool t.home) := fun m => ((k25.below m.below k25.lt).cell 2).trans (by simp)
      have x_3 : ∀ m : CalmW W22.heap.size W22, m.val.cell? ⟨gT, 3, none⟩ = some (.int .i64 t.lat) := fun m => ((k25.below m.below k25.lt).cell 3).trans (by simp)
      have x_4 : ∀ m : CalmW W22.heap.size W22, m.val.cell? ⟨gT, 4, none⟩ = some (.int .i64 t.lon) := fun m => ((k25.below m.below k25.lt).cell 4).trans (by simp)
      have x_5 : ∀ m : CalmW W22.heap.size W22, m.val.cell? ⟨gT, 5, none⟩ = some (.int .i64 t.iso) := fun m => ((k25.below m.below k25.lt).cell 5).trans (by simp)
      (refine wp_region_calm (W22.heap.size) (by kernel_rfl) (by kernel_rfl) ?_; (repeat (go_big_quiet_step ((with_reducible refine calm_of (Nat.le_refl _) (hIts _))))); refine wpQuiet_nil ?_; intro W9 hw'; obtain ⟨⟨_, hW9⟩, hw''⟩ := hw'; subst hw'')
      have z_11 := (k27.below hW9 k27.lt).cell 11
      simp at z_11
      rw [Hph.out] at z_11
      go_wp2
      go_ret
      exact ⟨rfl, bthen B28 hW9⟩
    · rw [h14] at hEt
      have hPl := fun k => HPl.out k rfl h14
      clear HPl h14
      go_wp2_with fail
      have u_5 : ∀ m : CalmW W22.heap.size W22, m.val.cell? ⟨gX, 5, none⟩ = some (.int .i64 X0.s.mode) := fun m => ((k27.below m.below k27.lt).cell 5).trans (by simp)
      have u_6 : ∀ m : CalmW W22.heap.size W22, m.val.cell? ⟨gX, 6, none⟩ = some (.bool X0.s.armed) := fun m => ((k27.below m.below k27.lt).cell 6).trans (by simp)
      have u_7 : ∀ m : CalmW W22.heap.size W22, m.val.cell? ⟨gX, 7, none⟩ = some (.bool X0.s.home) := fun m => ((k27.below m.below k27.lt).cell 7).trans (by simp)
      have u_8 : ∀ m : CalmW W22.heap.size W22, m.val.cell? ⟨gX, 8, none⟩ = some (.int .i64 X0.s.lat) := fun m => ((k27.below m.below k27.lt).cell 8).trans (by simp)
      have u_9 : ∀ m : CalmW W22.heap.size W22, m.val.cell? ⟨gX, 9, none⟩ = some (.int .i64 X0.s.lon) := fun m => ((k27.below m.below k27.lt).cell 9).trans (by simp)
      have u_10 : ∀ m : CalmW W22.heap.size W22, m.val.cell? ⟨gX, 10, none⟩ = some (.int .i64 X0.s.iso) := fun m => ((k27.below m.below k27.lt).cell 10).trans (by simp)
      have x_0 : ∀ m : CalmW W22.heap.size W22, m.val.cell? ⟨gT, 0, none⟩ = some (.int .i64 t.mode) := fun m => ((k25.below m.below k25.lt).cell 0).trans (by simp)
      have x_1 : ∀ m : CalmW W22.heap.size W22, m.val.cell? ⟨gT, 1, none⟩ = some (.bool t.armed) := fun m => ((k25.below m.below k25.lt).cell 1).trans (by simp)
      have x_2 : ∀ m : CalmW W22.heap.size W22, m.val.cell? ⟨gT, 2, none⟩ = some (.bool t.home) := fun m => ((k25.below m.below k25.lt).cell 2).trans (by simp)
      have x_3 : ∀ m : CalmW W22.heap.size W22, m.val.cell? ⟨gT, 3, none⟩ = some (.int .i64 t.lat) := fun m => ((k25.below m.below k25.lt).cell 3).trans (by simp)
      have x_4 : ∀ m : CalmW W22.heap.size W22, m.val.cell? ⟨gT, 4, none⟩ = some (.int .i64 t.lon) := fun m => ((k25.below m.below k25.lt).cell 4).trans (by simp)
      have x_5 : ∀ m : CalmW W22.heap.size W22, m.val.cell? ⟨gT, 5, none⟩ = some (.int .i64 t.iso) := fun m => ((k25.below m.below k25.lt).cell 5).trans (by simp)
      (refine wp_region_calm (W22.heap.size) (by kernel_rfl) (by kernel_rfl) ?_; (repeat (go_big_quiet_step ((with_reducible refine calm_of (Nat.le_refl _) (hIts _))))); refine wpQuiet_nil ?_; intro W9 hw'; obtain ⟨⟨_, hW9⟩, hw''⟩ := hw'; subst hw'')
      have k279 := k27.below hW9 k27.lt
      have k259 := k25.below hW9 k25.lt
      have k269 := k26.below hW9 k26.lt
      have B9 := bthen B28 hW9
      clear k27 k25 k26 hW9 u_5 u_6 u_7 u_8 u_9 u_10 x_0 x_1 x_2 x_3 x_4 x_5 hEt
      have HPl := Lib.hid hPl
      clear hPl
      go_wp2_with fail
      have hgX : w.heap.size < gX := by omega
      have hgT : gX < gT := by omega
      go_loopw [12] (fun i wr => ∃ k : Nat, k ≤ 7 ∧ i = .int .i64 k ∧ Blk wr w.heap.size 25 (cmC c) ∧ Blk wr gX 36 (suC X0) ∧ Blk wr gT 39 (stC t) ∧ Below w.heap.size w wr) (fun i _ => 7 - (intOf i).toNat)
      case atStart => exact ⟨0, by omega, rfl, k269, k279, k259, B9⟩
      case round =>
        obtain ⟨k, hk, rfl, kC, kX, kT, hbr⟩ := hrel
        by_cases hlt : k < 7
        · have hC1 := hC k
          have hB1 := hBt k
          have hP := HPl.out k
          clear hC hBt HPl
          generalize cmdE X0 c (k : Int) mask = F at *
          generalize cmdX X0 c (k : Int) mask = Y at *
          generalize bootV Y.f = b at *
          have hIb := its_any b.s
          have hN1 := run_ne_st b.s X0.s
          have hN2 := run_ne_r14 b.s t
          have HP := Lib.hid hP
          clear hP
          have c_0 := kC.cell 0
          have c_1 := kC.cell 1
          have c_2 := kC.cell 2
          have c_3 := kC.cell 3
          simp at c_0 c_1 c_2 c_3
          go_wp2_with (first | (refine wpList_load_row rfl 36 (.tmp 9) rfl gX rfl 36 (suC X0) (0, 0) _ kX Tryz.underlying36 rfl (infoSu _) ?_) | fail)
          with_reducible refine (hC1 _ (hN.below hbr)).mono ?_
          rintro e w31 ⟨rfl, q32⟩
          have k33 := kC.below q32 kC.lt
          have k34 := kX.below q32 kX.lt
          have k35 := kT.below q32 kT.lt
          have B36 := bthen hbr q32
          clear q32 kC kX kT
          have k37 := k33.alloc (.cells suZ 36)
          have k38 := k34.alloc (.cells suZ 36)
          have k39 := k35.alloc (.cells suZ 36)
          have k40 := Blk.new w31 36 suZ
          have B41 := B36.alloc B36.size (.cells suZ 36)
          have h42 : w.heap.size ≤ w31.heap.size := B36.size
          have h43 : w.heap.size < w31.heap.size := k33.lt
          have h44 : gX < w31.heap.size := k34.lt
          have h45 : gT < w31.heap.size := k35.lt
          clear k33 k34 k35 B36
          go_wp2_with (first | (refine wpList_store_row rfl 36 (.tmp 13) (.tmp 67) rfl w31.heap.size (suC Y) rfl rfl 36 _ k40 (infoSu _) rfl (oneSu _) ?_; have k46 := k37.rowOther w31.heap.size (by omega) (suC Y); have k47 := k38.rowOther w31.heap.size (by omega) (suC Y); have k48 := k39.rowOther w31.heap.size (by omega) (suC Y); have k49 := k40.row (suC Y); have B50 := bel_row B41 w31.heap.size h42 (suC Y); clear k37 k38 k39 k40 B41; generalize World.setRow _ _ _ = W51 at *; generalize w31.heap.size = gY at *; have y_0 := k49.cell 0; have y_1 := k49.cell 1; have y_2 := k49.cell 2; have y_3 := k49.cell 3; have y_4 := k49.cell 4; simp at y_0 y_1 y_2 y_3 y_4) | fail)
          with_reducible refine (hB1 _ (hN.below B50)).mono ?_
          rintro e w52 ⟨rfl, q53⟩
          have k54 := k46.below q53 k46.lt
          have k55 := k47.below q53 k47.lt
          have k56 := k48.below q53 k48.lt
          have k57 := k49.below q53 k49.lt
          have B58 := bthen B50 q53
          clear q53 k46 k47 k48 k49
          clear k57
          have k59 := k54.alloc (.cells suZ 36)
          have k60 := k55.alloc (.cells suZ 36)
          have k61 := k56.alloc (.cells suZ 36)
          have k62 := Blk.new w52 36 suZ
          have B63 := B58.alloc B58.size (.cells suZ 36)
          have h64 : w.heap.size ≤ w52.heap.size := B58.size
          have h65 : w.heap.size < w52.heap.size := k54.lt
          have h66 : gX < w52.heap.size := k55.lt
          have h67 : gT < w52.heap.size := k56.lt
          clear k54 k55 k56 B58
          go_wp2_with (first | (refine wpList_store_row rfl 36 (.tmp 15) (.tmp 71) rfl w52.heap.size (suC b) rfl rfl 36 _ k62 (infoSu _) rfl (oneSu _) ?_; have k68 := k59.rowOther w52.heap.size (by omega) (suC b); have k69 := k60.rowOther w52.heap.size (by omega) (suC b); have k70 := k61.rowOther w52.heap.size (by omega) (suC b); have k71 := k62.row (suC b); have B72 := bel_row B63 w52.heap.size h64 (suC b); clear k59 k60 k61 k62 B63; generalize World.setRow _ _ _ = W73 at *; generalize w52.heap.size = gB at *) | fail)
          rcases HP.out with ⟨h1, h2, h3⟩ | ⟨h1, h2, h3⟩
          · rw [h3, Bool.not_false] at hN1
            rw [h1, Bool.not_true] at hN2
            by_cases hF : F = 0
            · subst hF
              by_cases h6 : k = 6
              · have h6b : ((k : Int) == 6) = true := by simp; omega
                clear h2
                (try go_simp)
                have u_5 : ∀ m : CalmW W73.heap.size W73, m.val.cell? ⟨gB, 5, none⟩ = some (.int .i64 b.s.mode) := fun m => ((k71.below m.below k71.lt).cell 5).trans (by simp)
                have u_6 : ∀ m : CalmW W73.heap.size W73, m.val.cell? ⟨gB, 6, none⟩ = some (.bool b.s.armed) := fun m => ((k71.below m.below k71.lt).cell 6).trans (by simp)
                have u_7 : ∀ m : CalmW W73.heap.size W73, m.val.cell? ⟨gB, 7, none⟩ = some (.bool b.s.home) := fun m => ((k71.below m.below k71.lt).cell 7).trans (by simp)
                have u_8 : ∀ m : CalmW W73.heap.size W73, m.val.cell? ⟨gB, 8, none⟩ = some (.int .i64 b.s.lat) := fun m => ((k71.below m.below k71.lt).cell 8).trans (by simp)
                have u_9 : ∀ m : CalmW W73.heap.size W73, m.val.cell? ⟨gB, 9, none⟩ = some (.int .i64 b.s.lon) := fun m => ((k71.below m.below k71.lt).cell 9).trans (by simp)
                have u_10 : ∀ m : CalmW W73.heap.size W73, m.val.cell? ⟨gB, 10, none⟩ = some (.int .i64 b.s.iso) := fun m => ((k71.below m.below k71.lt).cell 10).trans (by simp)
                have v_5 : ∀ m : CalmW W73.heap.size W73, m.val.cell? ⟨gX, 5, none⟩ = some (.int .i64 X0.s.mode) := fun m => ((k69.below m.below k69.lt).cell 5).trans (by simp)
                have v_6 : ∀ m : CalmW W73.heap.size W73, m.val.cell? ⟨gX, 6, none⟩ = some (.bool X0.s.armed) := fun m => ((k69.below m.below k69.lt).cell 6).trans (by simp)
                have v_7 : ∀ m : CalmW W73.heap.size W73, m.val.cell? ⟨gX, 7, none⟩ = some (.bool X0.s.home) := fun m => ((k69.below m.below k69.lt).cell 7).trans (by simp)
                have v_8 : ∀ m : CalmW W73.heap.size W73, m.val.cell? ⟨gX, 8, none⟩ = some (.int .i64 X0.s.lat) := fun m => ((k69.below m.below k69.lt).cell 8).trans (by simp)
                have v_9 : ∀ m : CalmW W73.heap.size W73, m.val.cell? ⟨gX, 9, none⟩ = some (.int .i64 X0.s.lon) := fun m => ((k69.below m.below k69.lt).cell 9).trans (by simp)
                have v_10 : ∀ m : CalmW W73.heap.size W73, m.val.cell? ⟨gX, 10, none⟩ = some (.int .i64 X0.s.iso) := fun m => ((k69.below m.below k69.lt).cell 10).trans (by simp)
                have x_0 : ∀ m : CalmW W73.heap.size W73, m.val.cell? ⟨gT, 0, none⟩ = some (.int .i64 t.mode) := fun m => ((k70.below m.below k70.lt).cell 0).trans (by simp)
                have x_1 : ∀ m : CalmW W73.heap.size W73, m.val.cell? ⟨gT, 1, none⟩ = some (.bool t.armed) := fun m => ((k70.below m.below k70.lt).cell 1).trans (by simp)
                have x_2 : ∀ m : CalmW W73.heap.size W73, m.val.cell? ⟨gT, 2, none⟩ = some (.bool t.home) := fun m => ((k70.below m.below k70.lt).cell 2).trans (by simp)
                have x_3 : ∀ m : CalmW W73.heap.size W73, m.val.cell? ⟨gT, 3, none⟩ = some (.int .i64 t.lat) := fun m => ((k70.below m.below k70.lt).cell 3).trans (by simp)
                have x_4 : ∀ m : CalmW W73.heap.size W73, m.val.cell? ⟨gT, 4, none⟩ = some (.int .i64 t.lon) := fun m => ((k70.below m.below k70.lt).cell 4).trans (by simp)
                have x_5 : ∀ m : CalmW W73.heap.size W73, m.val.cell? ⟨gT, 5, none⟩ = some (.int .i64 t.iso) := fun m => ((k70.below m.below k70.lt).cell 5).trans (by simp)
                (refine wp_region_calm (W73.heap.size) (by kernel_rfl) (by kernel_rfl) ?_; (repeat (go_big_quiet_step ((with_reducible refine calm_of (Nat.le_refl _) (hIb _))))); refine wpQuiet_nil ?_; intro W9 hw'; obtain ⟨⟨_, hW9⟩, hw''⟩ := hw'; subst hw'')
                have kE := k68.below hW9 k68.lt
                have kF := k69.below hW9 k69.lt
                have kG := k70.below hW9 k70.lt
                have B9 := bthen B72 hW9
                go_wp2
                exact ⟨⟨k + 1, by omega, by go_num, kE, kF, kG, B9⟩, by simp [intOf]; omega⟩
              · have h6b : ((k : Int) == 6) = false := by simp; omega
                clear h2
                (try go_simp)
                have u_5 : ∀ m : CalmW W73.heap.size W73, m.val.cell? ⟨gB, 5, none⟩ = some (.int .i64 b.s.mode) := fun m => ((k71.below m.below k71.lt).cell 5).trans (by simp)
                have u_6 : ∀ m : CalmW W73.heap.size W73, m.val.cell? ⟨gB, 6, none⟩ = some (.bool b.s.armed) := fun m => ((k71.below m.below k71.lt).cell 6).trans (by simp)
                have u_7 : ∀ m : CalmW W73.heap.size W73, m.val.cell? ⟨gB, 7, none⟩ = some (.bool b.s.home) := fun m => ((k71.below m.below k71.lt).cell 7).trans (by simp)
                have u_8 : ∀ m : CalmW W73.heap.size W73, m.val.cell? ⟨gB, 8, none⟩ = some (.int .i64 b.s.lat) := fun m => ((k71.below m.below k71.lt).cell 8).trans (by simp)
                have u_9 : ∀ m : CalmW W73.heap.size W73, m.val.cell? ⟨gB, 9, none⟩ = some (.int .i64 b.s.lon) := fun m => ((k71.below m.below k71.lt).cell 9).trans (by simp)
                have u_10 : ∀ m : CalmW W73.heap.size W73, m.val.cell? ⟨gB, 10, none⟩ = some (.int .i64 b.s.iso) := fun m => ((k71.below m.below k71.lt).cell 10).trans (by simp)
                have v_5 : ∀ m : CalmW W73.heap.size W73, m.val.cell? ⟨gX, 5, none⟩ = some (.int .i64 X0.s.mode) := fun m => ((k69.below m.below k69.lt).cell 5).trans (by simp)
                have v_6 : ∀ m : CalmW W73.heap.size W73, m.val.cell? ⟨gX, 6, none⟩ = some (.bool X0.s.armed) := fun m => ((k69.below m.below k69.lt).cell 6).trans (by simp)
                have v_7 : ∀ m : CalmW W73.heap.size W73, m.val.cell? ⟨gX, 7, none⟩ = some (.bool X0.s.home) := fun m => ((k69.below m.below k69.lt).cell 7).trans (by simp)
                have v_8 : ∀ m : CalmW W73.heap.size W73, m.val.cell? ⟨gX, 8, none⟩ = some (.int .i64 X0.s.lat) := fun m => ((k69.below m.below k69.lt).cell 8).trans (by simp)
                have v_9 : ∀ m : CalmW W73.heap.size W73, m.val.cell? ⟨gX, 9, none⟩ = some (.int .i64 X0.s.lon) := fun m => ((k69.below m.below k69.lt).cell 9).trans (by simp)
                have v_10 : ∀ m : CalmW W73.heap.size W73, m.val.cell? ⟨gX, 10, none⟩ = some (.int .i64 X0.s.iso) := fun m => ((k69.below m.below k69.lt).cell 10).trans (by simp)
                have x_0 : ∀ m : CalmW W73.heap.size W73, m.val.cell? ⟨gT, 0, none⟩ = some (.int .i64 t.mode) := fun m => ((k70.below m.below k70.lt).cell 0).trans (by simp)
                have x_1 : ∀ m : CalmW W73.heap.size W73, m.val.cell? ⟨gT, 1, none⟩ = some (.bool t.armed) := fun m => ((k70.below m.below k70.lt).cell 1).trans (by simp)
                have x_2 : ∀ m : CalmW W73.heap.size W73, m.val.cell? ⟨gT, 2, none⟩ = some (.bool t.home) := fun m => ((k70.below m.below k70.lt).cell 2).trans (by simp)
                have x_3 : ∀ m : CalmW W73.heap.size W73, m.val.cell? ⟨gT, 3, none⟩ = some (.int .i64 t.lat) := fun m => ((k70.below m.below k70.lt).cell 3).trans (by simp)
                have x_4 : ∀ m : CalmW W73.heap.size W73, m.val.cell? ⟨gT, 4, none⟩ = some (.int .i64 t.lon) := fun m => ((k70.below m.below k70.lt).cell 4).trans (by simp)
                have x_5 : ∀ m : CalmW W73.heap.size W73, m.val.cell? ⟨gT, 5, none⟩ = some (.int .i64 t.iso) := fun m => ((k70.below m.below k70.lt).cell 5).trans (by simp)
                (refine wp_region_calm (W73.heap.size) (by kernel_rfl) (by kernel_rfl) ?_; (repeat (go_big_quiet_step ((with_reducible refine calm_of (Nat.le_refl _) (hIb _))))); refine wpQuiet_nil ?_; intro W9 hw'; obtain ⟨⟨_, hW9⟩, hw''⟩ := hw'; subst hw'')
                have kE := k68.below hW9 k68.lt
                have kF := k69.below hW9 k69.lt
                have kG := k70.below hW9 k70.lt
                have B9 := bthen B72 hW9
                go_wp2
                exact ⟨⟨k + 1, by omega, by go_num, kE, kF, kG, B9⟩, by simp [intOf]; omega⟩
            · have hFb : (F == 0) = false := by simpa using hF
              have h6b : ((k : Int) == 6) = false := by
                have : (k : Int) ≠ 6 := fun e => hF (h2 e)
                simpa using this
              clear h2
              (try go_simp)
              have u_5 : ∀ m : CalmW W73.heap.size W73, m.val.cell? ⟨gB, 5, none⟩ = some (.int .i64 b.s.mode) := fun m => ((k71.below m.below k71.lt).cell 5).trans (by simp)
              have u_6 : ∀ m : CalmW W73.heap.size W73, m.val.cell? ⟨gB, 6, none⟩ = some (.bool b.s.armed) := fun m => ((k71.below m.below k71.lt).cell 6).trans (by simp)
              have u_7 : ∀ m : CalmW W73.heap.size W73, m.val.cell? ⟨gB, 7, none⟩ = some (.bool b.s.home) := fun m => ((k71.below m.below k71.lt).cell 7).trans (by simp)
              have u_8 : ∀ m : CalmW W73.heap.size W73, m.val.cell? ⟨gB, 8, none⟩ = some (.int .i64 b.s.lat) := fun m => ((k71.below m.below k71.lt).cell 8).trans (by simp)
              have u_9 : ∀ m : CalmW W73.heap.size W73, m.val.cell? ⟨gB, 9, none⟩ = some (.int .i64 b.s.lon) := fun m => ((k71.below m.below k71.lt).cell 9).trans (by simp)
              have u_10 : ∀ m : CalmW W73.heap.size W73, m.val.cell? ⟨gB, 10, none⟩ = some (.int .i64 b.s.iso) := fun m => ((k71.below m.below k71.lt).cell 10).trans (by simp)
              have v_5 : ∀ m : CalmW W73.heap.size W73, m.val.cell? ⟨gX, 5, none⟩ = some (.int .i64 X0.s.mode) := fun m => ((k69.below m.below k69.lt).cell 5).trans (by simp)
              have v_6 : ∀ m : CalmW W73.heap.size W73, m.val.cell? ⟨gX, 6, none⟩ = some (.bool X0.s.armed) := fun m => ((k69.below m.below k69.lt).cell 6).trans (by simp)
              have v_7 : ∀ m : CalmW W73.heap.size W73, m.val.cell? ⟨gX, 7, none⟩ = some (.bool X0.s.home) := fun m => ((k69.below m.below k69.lt).cell 7).trans (by simp)
              have v_8 : ∀ m : CalmW W73.heap.size W73, m.val.cell? ⟨gX, 8, none⟩ = some (.int .i64 X0.s.lat) := fun m => ((k69.below m.below k69.lt).cell 8).trans (by simp)
              have v_9 : ∀ m : CalmW W73.heap.size W73, m.val.cell? ⟨gX, 9, none⟩ = some (.int .i64 X0.s.lon) := fun m => ((k69.below m.below k69.lt).cell 9).trans (by simp)
              have v_10 : ∀ m : CalmW W73.heap.size W73, m.val.cell? ⟨gX, 10, none⟩ = some (.int .i64 X0.s.iso) := fun m => ((k69.below m.below k69.lt).cell 10).trans (by simp)
              have x_0 : ∀ m : CalmW W73.heap.size W73, m.val.cell? ⟨gT, 0, none⟩ = some (.int .i64 t.mode) := fun m => ((k70.below m.below k70.lt).cell 0).trans (by simp)
              have x_1 : ∀ m : CalmW W73.heap.size W73, m.val.cell? ⟨gT, 1, none⟩ = some (.bool t.armed) := fun m => ((k70.below m.below k70.lt).cell 1).trans (by simp)
              have x_2 : ∀ m : CalmW W73.heap.size W73, m.val.cell? ⟨gT, 2, none⟩ = some (.bool t.home) := fun m => ((k70.below m.below k70.lt).cell 2).trans (by simp)
              have x_3 : ∀ m : CalmW W73.heap.size W73, m.val.cell? ⟨gT, 3, none⟩ = some (.int .i64 t.lat) := fun m => ((k70.below m.below k70.lt).cell 3).trans (by simp)
              have x_4 : ∀ m : CalmW W73.heap.size W73, m.val.cell? ⟨gT, 4, none⟩ = some (.int .i64 t.lon) := fun m => ((k70.below m.below k70.lt).cell 4).trans (by simp)
              have x_5 : ∀ m : CalmW W73.heap.size W73, m.val.cell? ⟨gT, 5, none⟩ = some (.int .i64 t.iso) := fun m => ((k70.below m.below k70.lt).cell 5).trans (by simp)
              (refine wp_region_calm (W73.heap.size) (by kernel_rfl) (by kernel_rfl) ?_; (repeat (go_big_quiet_step ((with_reducible refine calm_of (Nat.le_refl _) (hIb _))))); refine wpQuiet_nil ?_; intro W9 hw'; obtain ⟨⟨_, hW9⟩, hw''⟩ := hw'; subst hw'')
              have kE := k68.below hW9 k68.lt
              have kF := k69.below hW9 k69.lt
              have kG := k70.below hW9 k70.lt
              have B9 := bthen B72 hW9
              go_wp2
              exact ⟨⟨k + 1, by omega, by go_num, kE, kF, kG, B9⟩, by simp [intOf]; omega⟩
          · rw [h1, Bool.not_true] at hN1
            have hFb : (F == 0) = false := by simpa using h2
            have h6b : ((k : Int) == 6) = false := by simpa using h3
            clear h2 h3
            (try go_simp)
            have u_5 : ∀ m : CalmW W73.heap.size W73, m.val.cell? ⟨gB, 5, none⟩ = some (.int .i64 b.s.mode) := fun m => ((k71.below m.below k71.lt).cell 5).trans (by simp)
            have u_6 : ∀ m : CalmW W73.heap.size W73, m.val.cell? ⟨gB, 6, none⟩ = some (.bool b.s.armed) := fun m => ((k71.below m.below k71.lt).cell 6).trans (by simp)
            have u_7 : ∀ m : CalmW W73.heap.size W73, m.val.cell? ⟨gB, 7, none⟩ = some (.bool b.s.home) := fun m => ((k71.below m.below k71.lt).cell 7).trans (by simp)
            have u_8 : ∀ m : CalmW W73.heap.size W73, m.val.cell? ⟨gB, 8, none⟩ = some (.int .i64 b.s.lat) := fun m => ((k71.below m.below k71.lt).cell 8).trans (by simp)
            have u_9 : ∀ m : CalmW W73.heap.size W73, m.val.cell? ⟨gB, 9, none⟩ = some (.int .i64 b.s.lon) := fun m => ((k71.below m.below k71.lt).cell 9).trans (by simp)
            have u_10 : ∀ m : CalmW W73.heap.size W73, m.val.cell? ⟨gB, 10, none⟩ = some (.int .i64 b.s.iso) := fun m => ((k71.below m.below k71.lt).cell 10).trans (by simp)
            have v_5 : ∀ m : CalmW W73.heap.size W73, m.val.cell? ⟨gX, 5, none⟩ = some (.int .i64 X0.s.mode) := fun m => ((k69.below m.below k69.lt).cell 5).trans (by simp)
            have v_6 : ∀ m : CalmW W73.heap.size W73, m.val.cell? ⟨gX, 6, none⟩ = some (.bool X0.s.armed) := fun m => ((k69.below m.below k69.lt).cell 6).trans (by simp)
            have v_7 : ∀ m : CalmW W73.heap.size W73, m.val.cell? ⟨gX, 7, none⟩ = some (.bool X0.s.home) := fun m => ((k69.below m.below k69.lt).cell 7).trans (by simp)
            have v_8 : ∀ m : CalmW W73.heap.size W73, m.val.cell? ⟨gX, 8, none⟩ = some (.int .i64 X0.s.lat) := fun m => ((k69.below m.below k69.lt).cell 8).trans (by simp)
            have v_9 : ∀ m : CalmW W73.heap.size W73, m.val.cell? ⟨gX, 9, none⟩ = some (.int .i64 X0.s.lon) := fun m => ((k69.below m.below k69.lt).cell 9).trans (by simp)
            have v_10 : ∀ m : CalmW W73.heap.size W73, m.val.cell? ⟨gX, 10, none⟩ = some (.int .i64 X0.s.iso) := fun m => ((k69.below m.below k69.lt).cell 10).trans (by simp)
            have x_0 : ∀ m : CalmW W73.heap.size W73, m.val.cell? ⟨gT, 0, none⟩ = some (.int .i64 t.mode) := fun m => ((k70.below m.below k70.lt).cell 0).trans (by simp)
            have x_1 : ∀ m : CalmW W73.heap.size W73, m.val.cell? ⟨gT, 1, none⟩ = some (.bool t.armed) := fun m => ((k70.below m.below k70.lt).cell 1).trans (by simp)
            have x_2 : ∀ m : CalmW W73.heap.size W73, m.val.cell? ⟨gT, 2, none⟩ = some (.bool t.home) := fun m => ((k70.below m.below k70.lt).cell 2).trans (by simp)
            have x_3 : ∀ m : CalmW W73.heap.size W73, m.val.cell? ⟨gT, 3, none⟩ = some (.int .i64 t.lat) := fun m => ((k70.below m.below k70.lt).cell 3).trans (by simp)
            have x_4 : ∀ m : CalmW W73.heap.size W73, m.val.cell? ⟨gT, 4, none⟩ = some (.int .i64 t.lon) := fun m => ((k70.below m.below k70.lt).cell 4).trans (by simp)
            have x_5 : ∀ m : CalmW W73.heap.size W73, m.val.cell? ⟨gT, 5, none⟩ = some (.int .i64 t.iso) := fun m => ((k70.below m.below k70.lt).cell 5).trans (by simp)
            (refine wp_region_calm (W73.heap.size) (by kernel_rfl) (by kernel_rfl) ?_; (repeat (go_big_quiet_step ((with_reducible refine calm_of (Nat.le_refl _) (hIb _))))); refine wpQuiet_nil ?_; intro W9 hw'; obtain ⟨⟨_, hW9⟩, hw''⟩ := hw'; subst hw'')
            have kE := k68.below hW9 k68.lt
            have kF := k69.below hW9 k69.lt
            have kG := k70.below hW9 k70.lt
            have B9 := bthen B72 hW9
            go_wp2
            exact ⟨⟨k + 1, by omega, by go_num, kE, kF, kG, B9⟩, by simp [intOf]; omega⟩
        · obtain rfl : k = 7 := by omega
          go_wp2
          go_ret
          exact ⟨rfl, hbr⟩
  · have hEb : (E != 0) = true := by simpa using hE
    go_wp2_with fail
    have u_5 : ∀ m : CalmW W22.heap.size W22, m.val.cell? ⟨gX, 5, none⟩ = some (.int .i64 X0.s.mode) := fun m => ((k27.below m.below k27.lt).cell 5).trans (by simp)
    have u_6 : ∀ m : CalmW W22.heap.size W22, m.val.cell? ⟨gX, 6, none⟩ = some (.bool X0.s.armed) := fun m => ((k27.below m.below k27.lt).cell 6).trans (by simp)
    have u_7 : ∀ m : CalmW W22.heap.size W22, m.val.cell? ⟨gX, 7, none⟩ = some (.bool X0.s.home) := fun m => ((k27.below m.below k27.lt).cell 7).trans (by simp)
    have u_8 : ∀ m : CalmW W22.heap.size W22, m.val.cell? ⟨gX, 8, none⟩ = some (.int .i64 X0.s.lat) := fun m => ((k27.below m.below k27.lt).cell 8).trans (by simp)
    have u_9 : ∀ m : CalmW W22.heap.size W22, m.val.cell? ⟨gX, 9, none⟩ = some (.int .i64 X0.s.lon) := fun m => ((k27.below m.below k27.lt).cell 9).trans (by simp)
    have u_10 : ∀ m : CalmW W22.heap.size W22, m.val.cell? ⟨gX, 10, none⟩ = some (.int .i64 X0.s.iso) := fun m => ((k27.below m.below k27.lt).cell 10).trans (by simp)
    have x_0 : ∀ m : CalmW W22.heap.size W22, m.val.cell? ⟨gT, 0, none⟩ = some (.int .i64 t.mode) := fun m => ((k25.below m.below k25.lt).cell 0).trans (by simp)
    have x_1 : ∀ m : CalmW W22.heap.size W22, m.val.cell? ⟨gT, 1, none⟩ = some (.bool t.armed) := fun m => ((k25.below m.below k25.lt).cell 1).trans (by simp)
    have x_2 : ∀ m : CalmW W22.heap.size W22, m.val.cell? ⟨gT, 2, none⟩ = some (.bool t.home) := fun m => ((k25.below m.below k25.lt).cell 2).trans (by simp)
    have x_3 : ∀ m : CalmW W22.heap.size W22, m.val.cell? ⟨gT, 3, none⟩ = some (.int .i64 t.lat) := fun m => ((k25.below m.below k25.lt).cell 3).trans (by simp)
    have x_4 : ∀ m : CalmW W22.heap.size W22, m.val.cell? ⟨gT, 4, none⟩ = some (.int .i64 t.lon) := fun m => ((k25.below m.below k25.lt).cell 4).trans (by simp)
    have x_5 : ∀ m : CalmW W22.heap.size W22, m.val.cell? ⟨gT, 5, none⟩ = some (.int .i64 t.iso) := fun m => ((k25.below m.below k25.lt).cell 5).trans (by simp)
    (refine wp_region_calm (W22.heap.size) (by kernel_rfl) (by kernel_rfl) ?_; (repeat (go_big_quiet_step ((with_reducible refine calm_of (Nat.le_refl _) (hIts _))))); refine wpQuiet_nil ?_; intro W9 hw'; obtain ⟨⟨_, hW9⟩, hw''⟩ := hw'; subst hw'')
    have z_11 := (k27.below hW9 k27.lt).cell 11
    simp at z_11
    rw [Hph.out] at z_11
    go_wp2
    go_ret
    exact ⟨rfl, bthen B28 hW9⟩

set_option maxRecDepth 100000 in
set_option maxHeartbeats 4000000 in
theorem each_out (n : Int) (v : Value) (l : List Cm) (c : Cm) (mask : ByteArray) (w : World) (hN : NoneG w) (hA : CmsV w v l) (h : 30 < l.length ∨ (l.length ≤ 30 ∧ 500 < mask.size)) :
    Calls Tryz.prog 3 #[.int .u8 n, v, cmV c, .string mask] w fun e w' => e = .returned (.bool true) ∧ Below w.heap.size w w' := by
  obtain ⟨vp, vc, hvv⟩ : ∃ vp vc, v = .slice vp l.length vc := by
    rcases hA with ⟨rfl, rfl⟩ | ⟨b, o, cap, rfl, _⟩
    · exact ⟨none, 0, rfl⟩
    · exact ⟨_, _, rfl⟩
  have hSh := shown_any
  have B0 : Below w.heap.size w (w.alloc (.cells (cmC c) 25)) := (Below.refl _ w).alloc (Nat.le_refl _) _
  rcases h with h | ⟨h1, h2⟩
  ·
    subst hvv
    go_enter Tryz.func3, Tryz.ntmps3
    go_wp2_with fail
    with_reducible refine (hSh _ (hN.below B0)).mono ?_
    rintro e w1 ⟨rfl, B1⟩
    go_wp2
    go_ret
    exact ⟨rfl, bthen B0 B1⟩
  · have d1 : decide (30 < l.length) = false := by simp; omega
    have d2 : decide ((30 : Int) < (l.length : Int)) = false := by simp; omega
    subst hvv
    go_enter Tryz.func3, Tryz.ntmps3
    go_wp2_with fail
    with_reducible refine (hSh _ (hN.below B0)).mono ?_
    rintro e w1 ⟨rfl, B1⟩
    go_wp2
    go_ret
    exact ⟨rfl, bthen B0 B1⟩

theorem TopEach_walk (n : Int) (v : Value) (l : List Cm) (c : Cm) (mask : ByteArray) (hn : 0 ≤ n ∧ n < 256) (hok : ∀ x ∈ l, x.ok) (hln : l.length ≤ maxLen) (hc : c.ok) (z1 : mask.size ≤ maxLen) (w : World) (hN : NoneG w) (hA : CmsV w v l) :
    Calls Tryz.prog 3 #[.int .u8 n, v, cmV c, .string mask] w fun e w' => e = .returned (.bool true) ∧ Below w.heap.size w w' := by
  by_cases h1 : 30 < l.length
  · exact each_out n v l c mask w hN hA (.inl h1)
  · by_cases h2 : 500 < mask.size
    · exact each_out n v l c mask w hN hA (.inr ⟨by omega, h2⟩)
    · exact each_main n v l c mask hn hok (by omega) hc (by omega) w hN hA
end Go.Proofs.YtebkeocpojlepaaGreatDoor
