/- Contracts and plain laws, put together: TopG. -/
import Derived.Test.YtebkeocpojlepaaGreatDoorG26
import Derived.Test.YtebkeocpojlepaaGreatDoorG24
import Derived.Test.YtebkeocpojlepaaGreatDoorG25
import Derived.Test.YtebkeocpojlepaaGreatDoorG04
/- The walk of TopTwice (printed by wip/tools/gen_twice.py). -/
namespace Go.Proofs.YtebkeocpojlepaaGreatDoor
open Go.RowKit
set_option linter.unusedVariables false
set_option linter.unusedSimpArgs false

set_option maxRecDepth 100000 in
set_option maxHeartbeats 16000000 in
theorem twice_main (n : Int) (v : Value) (l : List Cm) (c d : Cm) (cut1 : Int) (m1 : ByteArray) (cut2 : Int) (m2 : ByteArray) (hn : 0 ≤ n ∧ n < 256) (hok : ∀ x ∈ l, x.ok) (hl : l.length ≤ 30) (hc : c.ok) (hd : d.ok) (hm1 : m1.size ≤ 500) (hm2 : m2.size ≤ 500) (w : World) (hN : NoneG w) (hA : CmsV w v l) :
    Calls Tryz.prog 4 #[.int .u8 n, v, cmV c, cmV d, .agg #[.int .i64 cut1, .string m1], .agg #[.int .i64 cut2, .string m2]] w fun e w' => e = .returned (.bool true) ∧ Below w.heap.size w w' := by
  obtain ⟨vp, vc, hvv⟩ : ∃ vp vc, v = .slice vp l.length vc := by
    rcases hA with ⟨rfl, rfl⟩ | ⟨b, o, cap, rfl, _⟩
    · exact ⟨none, 0, rfl⟩
    · exact ⟨_, _, rfl⟩
  have hSh := shown_any
  obtain ⟨q, hq⟩ : ∃ q : Nat, n.tmod 12 = (q : Int) := ⟨(n.tmod 12).toNat, by rw [Int.tmod_eq_emod_of_nonneg (by omega)]; omega⟩
  have hq11 : q ≤ 11 := by rw [Int.tmod_eq_emod_of_nonneg (by omega)] at hq; omega
  have hSt := stood_any (1 + (q : Int)) (q + 1) (by omega) (by omega) (by omega) 200 (by decide) (by decide)
  obtain ⟨K0, o0, K1, o1⟩ := start_plain q hq11 200 (by decide) (by decide) l hl
  have hAs := fun W hNW hAW => asked_any (q + 1) 200 1 _ K0 o0 l hl hok (by omega) (by decide) v W hNW hAW
  generalize seenX (newL (q + 1) 200) 1 = x0 at *
  generalize askX x0 l l.length = X0 at *
  obtain ⟨KA, hEnd⟩ := twice_plain K1 (by omega) (by decide) c d cut1 cut2 m1 m2
  have oY := cmdX_ok o1 c cut1 m1
  have oA := seenX_ok oY 2
  have hC1 := Command_any X0 o1 (legal_iso K1.leg) c hc (legal_ok (delta_legal K1.leg c)) cut1 m1 (by omega)
  have hB1 := Boot_any _ oY
  have hSy := fun W => seen_any _ oY 4621819117588971520 4621819117588971520 0 2 (.inr rfl) Vote_air W
  have hC2 := Command_any _ oA (legal_iso KA.leg) d hd (legal_ok (delta_legal KA.leg d)) cut2 m2 (by omega)
  have oZ := cmdX_ok oA d cut2 m2
  have hB2 := Boot_any _ oZ
  have hIts := its_any (seenX (cmdX X0 c cut1 m1).f 2).s
  have hDl := rDelta_any _ (legal_ok KA.leg) (legal_iso KA.leg) d hd
  have hAir := air_any
  have hph := KA.ph
  unfold CmdPost at hC1 hC2
  unfold DPost at hDl
  generalize cmdE X0 c cut1 m1 = E1 at *
  generalize cmdX X0 c cut1 m1 = Y at *
  generalize bootV Y.f = bY at *
  generalize seenX Y.f 2 = A at *
  generalize cmdE A d cut2 m2 = E2 at *
  generalize cmdX A d cut2 m2 = Z at *
  generalize bootV Z.f = b at *
  generalize hT : deltaS A.s d = t at *
  generalize hEE : deltaE A.s d = E at *
  have hIb := its_any b.s
  have hEq := run_eq_st b.s A.s
  have hEt := run_eq_r14 b.s t
  have hwr : IntKind.i64.wrap (1 + (q : Int)) = 1 + (q : Int) := wrap_small _ (by omega) (by omega)
  have d1 : decide (30 < l.length) = false := by simp; omega
  have d2 : decide ((30 : Int) < (l.length : Int)) = false := by simp; omega
  have d3 : decide ((500 : Int) < (m1.size : Int)) = false := by simp; omega
  have d4 : decide ((500 : Int) < (m2.size : Int)) = false := by simp; omega
  have HEnd := Lib.hid hEnd
  have Hph := Lib.hid hph
  clear K0 o0 K1 o1 KA oY oA oZ hT hEE hEnd hph
  subst hvv
  have kc0 := (((Blk.new w 25 (cmC c)).alloc (.cells (cmC d) 25)).alloc (.cells #[.int .i64 cut1, .string m1] 48)).alloc (.cells #[.int .i64 cut2, .string m2] 48)
  have kd0 := ((Blk.new (w.alloc (.cells (cmC c) 25)) 25 (cmC d)).alloc (.cells #[.int .i64 cut1, .string m1] 48)).alloc (.cells #[.int .i64 cut2, .string m2] 48)
  have kp0 := (Blk.new ((w.alloc (.cells (cmC c) 25)).alloc (.cells (cmC d) 25)) 48 #[.int .i64 cut1, .string m1]).alloc (.cells #[.int .i64 cut2, .string m2] 48)
  have kq0 := Blk.new (((w.alloc (.cells (cmC c) 25)).alloc (.cells (cmC d) 25)).alloc (.cells #[.int .i64 cut1, .string m1] 48)) 48 #[.int .i64 cut2, .string m2]
  have B0 : Below w.heap.size w ((((w.alloc (.cells (cmC c) 25)).alloc (.cells (cmC d) 25)).alloc (.cells #[.int .i64 cut1, .string m1] 48)).alloc (.cells #[.int .i64 cut2, .string m2] 48)) := ((((Below.refl _ w).alloc (Nat.le_refl _) _).alloc (by simp) _).alloc (by simp; omega) _).alloc (by simp; omega) _
  simp only [World.size_alloc] at kd0 kp0 kq0
  have p_1 := kp0.cell 1
  have r_1 := kq0.cell 1
  simp at p_1 r_1
  go_enter Tryz.func4, Tryz.ntmps4
  go_wp2_with fail
  generalize World.alloc (World.alloc (World.alloc (World.alloc w _) _) _) _ = W0 at *
  go_wp2_with fail
  with_reducible refine (hSh _ (hN.below B0)).mono ?_
  rintro e w1 ⟨rfl, q2⟩
  have k3 := kc0.below q2 kc0.lt
  have k4 := kd0.below q2 kd0.lt
  have k5 := kp0.below q2 kp0.lt
  have k6 := kq0.below q2 kq0.lt
  have B7 := bthen B0 q2
  clear q2 kc0 kd0 kp0 kq0
  go_wp2_with fail
  with_reducible refine (hSt _ (hN.below B7)).mono ?_
  rintro e w8 ⟨rfl, q9⟩
  have k10 := k3.below q9 k3.lt
  have k11 := k4.below q9 k4.lt
  have k12 := k5.below q9 k5.lt
  have k13 := k6.below q9 k6.lt
  have B14 := bthen B7 q9
  clear q9 k3 k4 k5 k6
  go_wp2_with fail
  with_reducible refine (hAs _ (hN.below B14) (hA.below B14)).mono ?_
  rintro e w15 ⟨rfl, q16⟩
  have k17 := k10.below q16 k10.lt
  have k18 := k11.below q16 k11.lt
  have k19 := k12.below q16 k12.lt
  have k20 := k13.below q16 k13.lt
  have B21 := bthen B14 q16
  clear q16 k10 k11 k12 k13
  have k22 := k17.alloc (.cells suZ 36)
  have k23 := k18.alloc (.cells suZ 36)
  have k24 := k19.alloc (.cells suZ 36)
  have k25 := k20.alloc (.cells suZ 36)
  have k26 := Blk.new w15 36 suZ
  have B27 := B21.alloc B21.size (.cells suZ 36)
  have h28 : w.heap.size ≤ w15.heap.size := B21.size
  have h29 : w.heap.size < w15.heap.size := k17.lt
  have h30 : (w.heap.size + 1) < w15.heap.size := k18.lt
  have h31 : (w.heap.size + 1 + 1) < w15.heap.size := k19.lt
  have h32 : (w.heap.size + 1 + 1 + 1) < w15.heap.size := k20.lt
  clear k17 k18 k19 k20 B21
  go_wp2_with (first | (refine wpList_store_row rfl 36 (.tmp 13) (.tmp 48) rfl w15.heap.size (suC X0) rfl rfl 36 _ k26 (infoSu _) rfl (oneSu _) ?_; have k33 := k22.rowOther w15.heap.size (by omega) (suC X0); have k34 := k23.rowOther w15.heap.size (by omega) (suC X0); have k35 := k24.rowOther w15.heap.size (by omega) (suC X0); have k36 := k25.rowOther w15.heap.size (by omega) (suC X0); have k37 := k26.row (suC X0); have B38 := bel_row B27 w15.heap.size h28 (suC X0); clear k22 k23 k24 k25 k26 B27; generalize World.setRow _ _ _ = W39 at *; generalize w15.heap.size = gX at *; have c_0 := k33.cell 0; have c_1 := k33.cell 1; have c_2 := k33.cell 2; have c_3 := k33.cell 3; simp at c_0 c_1 c_2 c_3; have p_0 := k35.cell 0; have p_1 := k35.cell 1; simp at p_0 p_1) | (refine wpList_load_row rfl 36 (.tmp 13) rfl gX rfl 36 (suC X0) (0, 0) _ k37 Tryz.underlying36 rfl (infoSu _) ?_) | fail)
  with_reducible refine (hC1 _ (hN.below B38)).mono ?_
  rintro e w40 ⟨rfl, q41⟩
  have k42 := k33.below q41 k33.lt
  have k43 := k34.below q41 k34.lt
  have k44 := k35.below q41 k35.lt
  have k45 := k36.below q41 k36.lt
  have k46 := k37.below q41 k37.lt
  have B47 := bthen B38 q41
  clear q41 k33 k34 k35 k36 k37
  clear k46
  clear k42
  clear k44
  have k48 := k43.alloc (.cells suZ 36)
  have k49 := k45.alloc (.cells suZ 36)
  have k50 := Blk.new w40 36 suZ
  have B51 := B47.alloc B47.size (.cells suZ 36)
  have h52 : w.heap.size ≤ w40.heap.size := B47.size
  have h53 : (w.heap.size + 1) < w40.heap.size := k43.lt
  have h54 : (w.heap.size + 1 + 1 + 1) < w40.heap.size := k45.lt
  clear k43 k45 B47
  go_wp2_with (first | (refine wpList_store_row rfl 36 (.tmp 14) (.tmp 54) rfl w40.heap.size (suC Y) rfl rfl 36 _ k50 (infoSu _) rfl (oneSu _) ?_; have k55 := k48.rowOther w40.heap.size (by omega) (suC Y); have k56 := k49.rowOther w40.heap.size (by omega) (suC Y); have k57 := k50.row (suC Y); have B58 := bel_row B51 w40.heap.size h52 (suC Y); clear k48 k49 k50 B51; generalize World.setRow _ _ _ = W59 at *; generalize w40.heap.size = gY at *; have y_0 := k57.cell 0; have y_1 := k57.cell 1; have y_2 := k57.cell 2; have y_3 := k57.cell 3; have y_4 := k57.cell 4; simp at y_0 y_1 y_2 y_3 y_4) | fail)
  with_reducible refine (hB1 _ (hN.below B58)).mono ?_
  rintro e w60 ⟨rfl, q61⟩
  have k62 := k55.below q61 k55.lt
  have k63 := k56.below q61 k56.lt
  have k64 := k57.below q61 k57.lt
  have B65 := bthen B58 q61
  clear q61 k55 k56 k57
  clear k64
  go_wp2_with fail
  with_reducible refine (hAir _).mono ?_
  rintro e w66 ⟨rfl, q67⟩
  have k68 := k62.below q67 k62.lt
  have k69 := k63.below q67 k63.lt
  have B70 := bthen B65 q67
  clear q67 k62 k63
  go_wp2_with fail
  with_reducible refine (hSy _ (hN.below B70)).mono ?_
  rintro e w71 ⟨rfl, q72⟩
  have k73 := k68.below q72 k68.lt
  have k74 := k69.below q72 k69.lt
  have B75 := bthen B70 q72
  clear q72 k68 k69
  have k76 := k73.alloc (.cells suZ 36)
  have k77 := k74.alloc (.cells suZ 36)
  have k78 := Blk.new w71 36 suZ
  have B79 := B75.alloc B75.size (.cells suZ 36)
  have h80 : w.heap.size ≤ w71.heap.size := B75.size
  have h81 : (w.heap.size + 1) < w71.heap.size := k73.lt
  have h82 : (w.heap.size + 1 + 1 + 1) < w71.heap.size := k74.lt
  clear k73 k74 B75
  go_wp2_with (first | (refine wpList_load_row rfl 36 (.tmp 16) rfl gA rfl 36 (suC A) (0, 0) _ k85 Tryz.underlying36 rfl (infoSu _) ?_) | (refine wpList_store_row rfl 36 (.tmp 16) (.tmp 60) rfl w71.heap.size (suC A) rfl rfl 36 _ k78 (infoSu _) rfl (oneSu _) ?_; have k83 := k76.rowOther w71.heap.size (by omega) (suC A); have k84 := k77.rowOther w71.heap.size (by omega) (suC A); have k85 := k78.row (suC A); have B86 := bel_row B79 w71.heap.size h80 (suC A); clear k76 k77 k78 B79; generalize World.setRow _ _ _ = W87 at *; generalize w71.heap.size = gA at *; have d_0 := k83.cell 0; have d_1 := k83.cell 1; have d_2 := k83.cell 2; have d_3 := k83.cell 3; simp at d_0 d_1 d_2 d_3; have r_0 := k84.cell 0; have r_1 := k84.cell 1; simp at r_0 r_1) | fail)
  with_reducible refine (hC2 _ (hN.below B86)).mono ?_
  rintro e w88 ⟨rfl, q89⟩
  have k90 := k83.below q89 k83.lt
  have k91 := k84.below q89 k84.lt
  have k92 := k85.below q89 k85.lt
  have B93 := bthen B86 q89
  clear q89 k83 k84 k85
  clear k91
  have k94 := k90.alloc (.cells suZ 36)
  have k95 := k92.alloc (.cells suZ 36)
  have k96 := Blk.new w88 36 suZ
  have B97 := B93.alloc B93.size (.cells suZ 36)
  have h98 : w.heap.size ≤ w88.heap.size := B93.size
  have h99 : (w.heap.size + 1) < w88.heap.size := k90.lt
  have h100 : gA < w88.heap.size := k92.lt
  clear k90 k92 B93
  go_wp2_with (first | (refine wpList_store_row rfl 36 (.tmp 17) (.tmp 66) rfl w88.heap.size (suC Z) rfl rfl 36 _ k96 (infoSu _) rfl (oneSu _) ?_; have k101 := k94.rowOther w88.heap.size (by omega) (suC Z); have k102 := k95.rowOther w88.heap.size (by omega) (suC Z); have k103 := k96.row (suC Z); have B104 := bel_row B97 w88.heap.size h98 (suC Z); clear k94 k95 k96 B97; generalize World.setRow _ _ _ = W105 at *; generalize w88.heap.size = gZ at *; have z_0 := k103.cell 0; have z_1 := k103.cell 1; have z_2 := k103.cell 2; have z_3 := k103.cell 3; have z_4 := k103.cell 4; simp at z_0 z_1 z_2 z_3 z_4) | fail)
  with_reducible refine (hB2 _ (hN.below B104)).mono ?_
  rintro e w106 ⟨rfl, q107⟩
  have k108 := k101.below q107 k101.lt
  have k109 := k102.below q107 k102.lt
  have k110 := k103.below q107 k103.lt
  have B111 := bthen B104 q107
  clear q107 k101 k102 k103
  clear k110
  have k112 := k108.alloc (.cells suZ 36)
  have k113 := k109.alloc (.cells suZ 36)
  have k114 := Blk.new w106 36 suZ
  have B115 := B111.alloc B111.size (.cells suZ 36)
  have h116 : w.heap.size ≤ w106.heap.size := B111.size
  have h117 : (w.heap.size + 1) < w106.heap.size := k108.lt
  have h118 : gA < w106.heap.size := k109.lt
  clear k108 k109 B111
  go_wp2_with (first | (refine wpList_store_row rfl 36 (.tmp 19) (.tmp 70) rfl w106.heap.size (suC b) rfl rfl 36 _ k114 (infoSu _) rfl (oneSu _) ?_; have k119 := k112.rowOther w106.heap.size (by omega) (suC b); have k120 := k113.rowOther w106.heap.size (by omega) (suC b); have k121 := k114.row (suC b); have B122 := bel_row B115 w106.heap.size h116 (suC b); clear k112 k113 k114 B115; generalize World.setRow _ _ _ = W123 at *; generalize w106.heap.size = gB at *) | fail)
  go_simp
  refine wp_region_chain W123.heap.size 8 9 [true, true, true, true, true, true, true, true, false, false, false] [false, false, false, false, false, false, false, false, false, false, true] #[true, true, true, true, true, true, true, true, false, false, false] #[true, true, true, true, true, true, true, true, true, true, true]
    (fun v w' => ∃ g, v = .pointer (some ⟨g, 0, none⟩) ∧ W123.heap.size ≤ g ∧ Blk w' g 39 zStC) (fun v w' => ∃ g, v = .pointer (some ⟨g, 0, none⟩) ∧ W123.heap.size ≤ g ∧ Blk w' g 39 (stC t)) (by kernel_rfl) (by kernel_rfl) rfl (Nat.le_refl _) rfl rfl ?_ ?_ (by kernel_rfl) ?_
  case refine_1 => rintro v w1 w2 ⟨g, rfl, hg, hB⟩ hb; exact ⟨g, rfl, hg, hB.below hb hB.lt⟩
  case refine_2 => rintro v w1 w2 ⟨g, rfl, hg, hB⟩ hb; exact ⟨g, rfl, hg, hB.below hb hB.lt⟩
  apply Exists.intro
  refine ⟨?_, ?_, ?_⟩
  case refine_1 =>
    intro Z hZ hNE
    have u_5 : ∀ m : CalmX W123.heap.size W123 Z, m.val.cell? ⟨gA, 5, none⟩ = some (.int .i64 A.s.mode) := fun m => ((k120.below m.below k120.lt).cell 5).trans (by simp)
    have u_6 : ∀ m : CalmX W123.heap.size W123 Z, m.val.cell? ⟨gA, 6, none⟩ = some (.bool A.s.armed) := fun m => ((k120.below m.below k120.lt).cell 6).trans (by simp)
    have u_7 : ∀ m : CalmX W123.heap.size W123 Z, m.val.cell? ⟨gA, 7, none⟩ = some (.bool A.s.home) := fun m => ((k120.below m.below k120.lt).cell 7).trans (by simp)
    have u_8 : ∀ m : CalmX W123.heap.size W123 Z, m.val.cell? ⟨gA, 8, none⟩ = some (.int .i64 A.s.lat) := fun m => ((k120.below m.below k120.lt).cell 8).trans (by simp)
    have u_9 : ∀ m : CalmX W123.heap.size W123 Z, m.val.cell? ⟨gA, 9, none⟩ = some (.int .i64 A.s.lon) := fun m => ((k120.below m.below k120.lt).cell 9).trans (by simp)
    have u_10 : ∀ m : CalmX W123.heap.size W123 Z, m.val.cell? ⟨gA, 10, none⟩ = some (.int .i64 A.s.iso) := fun m => ((k120.below m.below k120.lt).cell 10).trans (by simp)
    have v_0 : ∀ m : CalmX W123.heap.size W123 Z, m.val.cell? ⟨(w.heap.size + 1), 0, none⟩ = some (.int .i64 d.kind) := fun m => ((k119.below m.below k119.lt).cell 0).trans (by simp)
    have v_1 : ∀ m : CalmX W123.heap.size W123 Z, m.val.cell? ⟨(w.heap.size + 1), 1, none⟩ = some (.int .i64 d.n) := fun m => ((k119.below m.below k119.lt).cell 1).trans (by simp)
    have v_2 : ∀ m : CalmX W123.heap.size W123 Z, m.val.cell? ⟨(w.heap.size + 1), 2, none⟩ = some (.float .f64 d.lat) := fun m => ((k119.below m.below k119.lt).cell 2).trans (by simp)
    have v_3 : ∀ m : CalmX W123.heap.size W123 Z, m.val.cell? ⟨(w.heap.size + 1), 3, none⟩ = some (.float .f64 d.lon) := fun m => ((k119.below m.below k119.lt).cell 3).trans (by simp)
    simp only [keepM]
    repeat (go_big_quiet_step (first | (with_reducible refine calmX_of hZ (Nat.le_refl _) (hIts _)) | (with_reducible refine calmX_of hZ (Nat.le_refl _) (hDl _))))
    exact wpQuiet_nil rfl
  case refine_2 =>
    refine ⟨rfl, ?_⟩
    intro w1 hb
    refine ⟨.pointer (some ⟨w1.heap.size, 0, none⟩), w1.alloc (.cells zStC 39), ?_, (Below.refl _ _).alloc (Nat.le_refl _) _, ⟨_, rfl, hb.size, Blk.new _ _ _⟩⟩
    go_simp
  rintro v hNE
  obtain ⟨⟨wv, _, gT, rfl, gT0, _⟩⟩ := hNE
  refine ⟨⟨rfl, ?_⟩, ?_⟩
  · rintro w1 ⟨⟨w2, b2, g', e, hg, kT2⟩, rfl⟩
    cases e
    refine ⟨undef, _, .inr ⟨rfl, run_store_row 39 (.tmp 20) (.tmp 77) rfl gT (stC t) rfl rfl 39 _ kT2 (infoR _) rfl (oneSt _)⟩, ?_⟩
    exact ⟨⟨_, bel_row b2 gT hg _, gT, rfl, hg, kT2.row _⟩, rfl⟩
  intro u hNE2
  simp only [keepM, Act.put, List.setIfInBounds_toArray, List.set_cons_succ, List.set_cons_zero]
  repeat (go_big_quiet_step (fail))
  refine wpQuiet_nil ?_
  rintro W124 ⟨⟨w6, b125, g', e, h126, k127⟩, rfl⟩
  cases e
  have k128 := k119.below b125 k119.lt
  have k129 := k120.below b125 k120.lt
  have k130 := k121.below b125 k121.lt
  have B131 := B122.trans (b125.mono B122.size)
  have h132 : (w.heap.size + 1) < gT := Nat.lt_of_lt_of_le k119.lt h126
  have h133 : gA < gT := Nat.lt_of_lt_of_le k120.lt h126
  have h134 : gB < gT := Nat.lt_of_lt_of_le k121.lt h126
  clear k119 k120 k121 b125
  rcases HEnd.out with h | ⟨h1, h2⟩
  ·
    rw [h] at hEq
    have a_11 := k129.cell 11
    simp at a_11
    rw [Hph.out] at a_11
    go_wp2_with fail
    have u_5 : ∀ m : CalmW W124.heap.size W124, m.val.cell? ⟨gB, 5, none⟩ = some (.int .i64 b.s.mode) := fun m => ((k130.below m.below k130.lt).cell 5).trans (by simp)
    have u_6 : ∀ m : CalmW W124.heap.size W124, m.val.cell? ⟨gB, 6, none⟩ = some (.bool b.s.armed) := fun m => ((k130.below m.below k130.lt).cell 6).trans (by simp)
    have u_7 : ∀ m : CalmW W124.heap.size W124, m.val.cell? ⟨gB, 7, none⟩ = some (.bool b.s.home) := fun m => ((k130.below m.below k130.lt).cell 7).trans (by simp)
    have u_8 : ∀ m : CalmW W124.heap.size W124, m.val.cell? ⟨gB, 8, none⟩ = some (.int .i64 b.s.lat) := fun m => ((k130.below m.below k130.lt).cell 8).trans (by simp)
    have u_9 : ∀ m : CalmW W124.heap.size W124, m.val.cell? ⟨gB, 9, none⟩ = some (.int .i64 b.s.lon) := fun m => ((k130.below m.below k130.lt).cell 9).trans (by simp)
    have u_10 : ∀ m : CalmW W124.heap.size W124, m.val.cell? ⟨gB, 10, none⟩ = some (.int .i64 b.s.iso) := fun m => ((k130.below m.below k130.lt).cell 10).trans (by simp)
    have v_5 : ∀ m : CalmW W124.heap.size W124, m.val.cell? ⟨gA, 5, none⟩ = some (.int .i64 A.s.mode) := fun m => ((k129.below m.below k129.lt).cell 5).trans (by simp)
    have v_6 : ∀ m : CalmW W124.heap.size W124, m.val.cell? ⟨gA, 6, none⟩ = some (.bool A.s.armed) := fun m => ((k129.below m.below k129.lt).cell 6).trans (by simp)
    have v_7 : ∀ m : CalmW W124.heap.size W124, m.val.cell? ⟨gA, 7, none⟩ = some (.bool A.s.home) := fun m => ((k129.below m.below k129.lt).cell 7).trans (by simp)
    have v_8 : ∀ m : CalmW W124.heap.size W124, m.val.cell? ⟨gA, 8, none⟩ = some (.int .i64 A.s.lat) := fun m => ((k129.below m.below k129.lt).cell 8).trans (by simp)
    have v_9 : ∀ m : CalmW W124.heap.size W124, m.val.cell? ⟨gA, 9, none⟩ = some (.int .i64 A.s.lon) := fun m => ((k129.below m.below k129.lt).cell 9).trans (by simp)
    have v_10 : ∀ m : CalmW W124.heap.size W124, m.val.cell? ⟨gA, 10, none⟩ = some (.int .i64 A.s.iso) := fun m => ((k129.below m.below k129.lt).cell 10).trans (by simp)
    have x_0 : ∀ m : CalmW W124.heap.size W124, m.val.cell? ⟨gT, 0, none⟩ = some (.int .i64 t.mode) := fun m => ((k127.below m.below k127.lt).cell 0).trans (by simp)
    have x_1 : ∀ m : CalmW W124.heap.size W124, m.val.cell? ⟨gT, 1, none⟩ = some (.bool t.armed) := fun m => ((k127.below m.below k127.lt).cell 1).trans (by simp)
    have x_2 : ∀ m : CalmW W124.heap.size W124, m.val.cell? ⟨gT, 2, none⟩ = some (.bool t.home) := fun m => ((k127.below m.below k127.lt).cell 2).trans (by simp)
    have x_3 : ∀ m : CalmW W124.heap.size W124, m.val.cell? ⟨gT, 3, none⟩ = some (.int .i64 t.lat) := fun m => ((k127.below m.below k127.lt).cell 3).trans (by simp)
    have x_4 : ∀ m : CalmW W124.heap.size W124, m.val.cell? ⟨gT, 4, none⟩ = some (.int .i64 t.lon) := fun m => ((k127.below m.below k127.lt).cell 4).trans (by simp)
    have x_5 : ∀ m : CalmW W124.heap.size W124, m.val.cell? ⟨gT, 5, none⟩ = some (.int .i64 t.iso) := fun m => ((k127.below m.below k127.lt).cell 5).trans (by simp)
    (refine wp_region_calm (W124.heap.size) (by kernel_rfl) (by kernel_rfl) ?_; (repeat (go_big_quiet_step ((with_reducible refine calm_of (Nat.le_refl _) (hIb _))))); refine wpQuiet_nil ?_; intro W9 hw'; obtain ⟨⟨_, hW9⟩, hw''⟩ := hw'; subst hw'')
    go_wp2
    go_ret
    exact ⟨rfl, bthen B131 hW9⟩
  ·
    subst h1
    rw [h2] at hEt
    have a_11 := k129.cell 11
    simp at a_11
    rw [Hph.out] at a_11
    have hcs : eqSt b.s A.s = true ∨ eqSt b.s A.s = false := by cases eqSt b.s A.s <;> simp
    rcases hcs with h | h
    ·
      rw [h] at hEq
      go_wp2_with fail
      have u_5 : ∀ m : CalmW W124.heap.size W124, m.val.cell? ⟨gB, 5, none⟩ = some (.int .i64 b.s.mode) := fun m => ((k130.below m.below k130.lt).cell 5).trans (by simp)
      have u_6 : ∀ m : CalmW W124.heap.size W124, m.val.cell? ⟨gB, 6, none⟩ = some (.bool b.s.armed) := fun m => ((k130.below m.below k130.lt).cell 6).trans (by simp)
      have u_7 : ∀ m : CalmW W124.heap.size W124, m.val.cell? ⟨gB, 7, none⟩ = some (.bool b.s.home) := fun m => ((k130.below m.below k130.lt).cell 7).trans (by simp)
      have u_8 : ∀ m : CalmW W124.heap.size W124, m.val.cell? ⟨gB, 8, none⟩ = some (.int .i64 b.s.lat) := fun m => ((k130.below m.below k130.lt).cell 8).trans (by simp)
      have u_9 : ∀ m : CalmW W124.heap.size W124, m.val.cell? ⟨gB, 9, none⟩ = some (.int .i64 b.s.lon) := fun m => ((k130.below m.below k130.lt).cell 9).trans (by simp)
      have u_10 : ∀ m : CalmW W124.heap.size W124, m.val.cell? ⟨gB, 10, none⟩ = some (.int .i64 b.s.iso) := fun m => ((k130.below m.below k130.lt).cell 10).trans (by simp)
      have v_5 : ∀ m : CalmW W124.heap.size W124, m.val.cell? ⟨gA, 5, none⟩ = some (.int .i64 A.s.mode) := fun m => ((k129.below m.below k129.lt).cell 5).trans (by simp)
      have v_6 : ∀ m : CalmW W124.heap.size W124, m.val.cell? ⟨gA, 6, none⟩ = some (.bool A.s.armed) := fun m => ((k129.below m.below k129.lt).cell 6).trans (by simp)
      have v_7 : ∀ m : CalmW W124.heap.size W124, m.val.cell? ⟨gA, 7, none⟩ = some (.bool A.s.home) := fun m => ((k129.below m.below k129.lt).cell 7).trans (by simp)
      have v_8 : ∀ m : CalmW W124.heap.size W124, m.val.cell? ⟨gA, 8, none⟩ = some (.int .i64 A.s.lat) := fun m => ((k129.below m.below k129.lt).cell 8).trans (by simp)
      have v_9 : ∀ m : CalmW W124.heap.size W124, m.val.cell? ⟨gA, 9, none⟩ = some (.int .i64 A.s.lon) := fun m => ((k129.below m.below k129.lt).cell 9).trans (by simp)
      have v_10 : ∀ m : CalmW W124.heap.size W124, m.val.cell? ⟨gA, 10, none⟩ = some (.int .i64 A.s.iso) := fun m => ((k129.below m.below k129.lt).cell 10).trans (by simp)
      have x_0 : ∀ m : CalmW W124.heap.size W124, m.val.cell? ⟨gT, 0, none⟩ = some (.int .i64 t.mode) := fun m => ((k127.below m.below k127.lt).cell 0).trans (by simp)
      have x_1 : ∀ m : CalmW W124.heap.size W124, m.val.cell? ⟨gT, 1, none⟩ = some (.bool t.armed) := fun m => ((k127.below m.below k127.lt).cell 1).trans (by simp)
      have x_2 : ∀ m : CalmW W124.heap.size W124, m.val.cell? ⟨gT, 2, none⟩ = some (.bool t.home) := fun m => ((k127.below m.below k127.lt).cell 2).trans (by simp)
      have x_3 : ∀ m : CalmW W124.heap.size W124, m.val.cell? ⟨gT, 3, none⟩ = some (.int .i64 t.lat) := fun m => ((k127.below m.below k127.lt).cell 3).trans (by simp)
      have x_4 : ∀ m : CalmW W124.heap.size W124, m.val.cell? ⟨gT, 4, none⟩ = some (.int .i64 t.lon) := fun m => ((k127.below m.below k127.lt).cell 4).trans (by simp)
      have x_5 : ∀ m : CalmW W124.heap.size W124, m.val.cell? ⟨gT, 5, none⟩ = some (.int .i64 t.iso) := fun m => ((k127.below m.below k127.lt).cell 5).trans (by simp)
      (refine wp_region_calm (W124.heap.size) (by kernel_rfl) (by kernel_rfl) ?_; (repeat (go_big_quiet_step ((with_reducible refine calm_of (Nat.le_refl _) (hIb _))))); refine wpQuiet_nil ?_; intro W9 hw'; obtain ⟨⟨_, hW9⟩, hw''⟩ := hw'; subst hw'')
      go_wp2
      go_ret
      exact ⟨rfl, bthen B131 hW9⟩
    ·
      rw [h] at hEq
      go_wp2_with fail
      have u_5 : ∀ m : CalmW W124.heap.size W124, m.val.cell? ⟨gB, 5, none⟩ = some (.int .i64 b.s.mode) := fun m => ((k130.below m.below k130.lt).cell 5).trans (by simp)
      have u_6 : ∀ m : CalmW W124.heap.size W124, m.val.cell? ⟨gB, 6, none⟩ = some (.bool b.s.armed) := fun m => ((k130.below m.below k130.lt).cell 6).trans (by simp)
      have u_7 : ∀ m : CalmW W124.heap.size W124, m.val.cell? ⟨gB, 7, none⟩ = some (.bool b.s.home) := fun m => ((k130.below m.below k130.lt).cell 7).trans (by simp)
      have u_8 : ∀ m : CalmW W124.heap.size W124, m.val.cell? ⟨gB, 8, none⟩ = some (.int .i64 b.s.lat) := fun m => ((k130.below m.below k130.lt).cell 8).trans (by simp)
      have u_9 : ∀ m : CalmW W124.heap.size W124, m.val.cell? ⟨gB, 9, none⟩ = some (.int .i64 b.s.lon) := fun m => ((k130.below m.below k130.lt).cell 9).trans (by simp)
      have u_10 : ∀ m : CalmW W124.heap.size W124, m.val.cell? ⟨gB, 10, none⟩ = some (.int .i64 b.s.iso) := fun m => ((k130.below m.below k130.lt).cell 10).trans (by simp)
      have v_5 : ∀ m : CalmW W124.heap.size W124, m.val.cell? ⟨gA, 5, none⟩ = some (.int .i64 A.s.mode) := fun m => ((k129.below m.below k129.lt).cell 5).trans (by simp)
      have v_6 : ∀ m : CalmW W124.heap.size W124, m.val.cell? ⟨gA, 6, none⟩ = some (.bool A.s.armed) := fun m => ((k129.below m.below k129.lt).cell 6).trans (by simp)
      have v_7 : ∀ m : CalmW W124.heap.size W124, m.val.cell? ⟨gA, 7, none⟩ = some (.bool A.s.home) := fun m => ((k129.below m.below k129.lt).cell 7).trans (by simp)
      have v_8 : ∀ m : CalmW W124.heap.size W124, m.val.cell? ⟨gA, 8, none⟩ = some (.int .i64 A.s.lat) := fun m => ((k129.below m.below k129.lt).cell 8).trans (by simp)
      have v_9 : ∀ m : CalmW W124.heap.size W124, m.val.cell? ⟨gA, 9, none⟩ = some (.int .i64 A.s.lon) := fun m => ((k129.below m.below k129.lt).cell 9).trans (by simp)
      have v_10 : ∀ m : CalmW W124.heap.size W124, m.val.cell? ⟨gA, 10, none⟩ = some (.int .i64 A.s.iso) := fun m => ((k129.below m.below k129.lt).cell 10).trans (by simp)
      have x_0 : ∀ m : CalmW W124.heap.size W124, m.val.cell? ⟨gT, 0, none⟩ = some (.int .i64 t.mode) := fun m => ((k127.below m.below k127.lt).cell 0).trans (by simp)
      have x_1 : ∀ m : CalmW W124.heap.size W124, m.val.cell? ⟨gT, 1, none⟩ = some (.bool t.armed) := fun m => ((k127.below m.below k127.lt).cell 1).trans (by simp)
      have x_2 : ∀ m : CalmW W124.heap.size W124, m.val.cell? ⟨gT, 2, none⟩ = some (.bool t.home) := fun m => ((k127.below m.below k127.lt).cell 2).trans (by simp)
      have x_3 : ∀ m : CalmW W124.heap.size W124, m.val.cell? ⟨gT, 3, none⟩ = some (.int .i64 t.lat) := fun m => ((k127.below m.below k127.lt).cell 3).trans (by simp)
      have x_4 : ∀ m : CalmW W124.heap.size W124, m.val.cell? ⟨gT, 4, none⟩ = some (.int .i64 t.lon) := fun m => ((k127.below m.below k127.lt).cell 4).trans (by simp)
      have x_5 : ∀ m : CalmW W124.heap.size W124, m.val.cell? ⟨gT, 5, none⟩ = some (.int .i64 t.iso) := fun m => ((k127.below m.below k127.lt).cell 5).trans (by simp)
      (refine wp_region_calm (W124.heap.size) (by kernel_rfl) (by kernel_rfl) ?_; (repeat (go_big_quiet_step ((with_reducible refine calm_of (Nat.le_refl _) (hIb _))))); refine wpQuiet_nil ?_; intro W9 hw'; obtain ⟨⟨_, hW9⟩, hw''⟩ := hw'; subst hw'')
      go_wp2
      go_ret
      exact ⟨rfl, bthen B131 hW9⟩

set_option maxRecDepth 100000 in
set_option maxHeartbeats 4000000 in
theorem twice_out (n : Int) (v : Value) (l : List Cm) (c d : Cm) (cut1 : Int) (m1 : ByteArray) (cut2 : Int) (m2 : ByteArray) (w : World) (hN : NoneG w) (hA : CmsV w v l) (h : 30 < l.length ∨ (l.length ≤ 30 ∧ 500 < m1.size) ∨ (l.length ≤ 30 ∧ m1.size ≤ 500 ∧ 500 < m2.size)) :
    Calls Tryz.prog 4 #[.int .u8 n, v, cmV c, cmV d, .agg #[.int .i64 cut1, .string m1], .agg #[.int .i64 cut2, .string m2]] w fun e w' => e = .returned (.bool true) ∧ Below w.heap.size w w' := by
  obtain ⟨vp, vc, hvv⟩ : ∃ vp vc, v = .slice vp l.length vc := by
    rcases hA with ⟨rfl, rfl⟩ | ⟨b, o, cap, rfl, _⟩
    · exact ⟨none, 0, rfl⟩
    · exact ⟨_, _, rfl⟩
  have hSh := shown_any
  have kc0 := (((Blk.new w 25 (cmC c)).alloc (.cells (cmC d) 25)).alloc (.cells #[.int .i64 cut1, .string m1] 48)).alloc (.cells #[.int .i64 cut2, .string m2] 48)
  have kd0 := ((Blk.new (w.alloc (.cells (cmC c) 25)) 25 (cmC d)).alloc (.cells #[.int .i64 cut1, .string m1] 48)).alloc (.cells #[.int .i64 cut2, .string m2] 48)
  have kp0 := (Blk.new ((w.alloc (.cells (cmC c) 25)).alloc (.cells (cmC d) 25)) 48 #[.int .i64 cut1, .string m1]).alloc (.cells #[.int .i64 cut2, .string m2] 48)
  have kq0 := Blk.new (((w.alloc (.cells (cmC c) 25)).alloc (.cells (cmC d) 25)).alloc (.cells #[.int .i64 cut1, .string m1] 48)) 48 #[.int .i64 cut2, .string m2]
  have B0 : Below w.heap.size w ((((w.alloc (.cells (cmC c) 25)).alloc (.cells (cmC d) 25)).alloc (.cells #[.int .i64 cut1, .string m1] 48)).alloc (.cells #[.int .i64 cut2, .string m2] 48)) := ((((Below.refl _ w).alloc (Nat.le_refl _) _).alloc (by simp) _).alloc (by simp; omega) _).alloc (by simp; omega) _
  simp only [World.size_alloc] at kd0 kp0 kq0
  rcases h with h | ⟨h1, h2⟩ | ⟨h1, h2, h3⟩
  ·
    subst hvv
    have p_1 := kp0.cell 1
    have r_1 := kq0.cell 1
    simp at p_1 r_1
    go_enter Tryz.func4, Tryz.ntmps4
    go_wp2_with fail
    with_reducible refine (hSh _ (hN.below B0)).mono ?_
    rintro e w1 ⟨rfl, B1⟩
    go_wp2
    go_ret
    exact ⟨rfl, bthen B0 B1⟩
  · have d1 : decide (30 < l.length) = false := by simp; omega
    have d2 : decide ((30 : Int) < (l.length : Int)) = false := by simp; omega
    subst hvv
    have p_1 := kp0.cell 1
    have r_1 := kq0.cell 1
    simp at p_1 r_1
    go_enter Tryz.func4, Tryz.ntmps4
    go_wp2_with fail
    with_reducible refine (hSh _ (hN.below B0)).mono ?_
    rintro e w1 ⟨rfl, B1⟩
    go_wp2
    go_ret
    exact ⟨rfl, bthen B0 B1⟩
  · have d1 : decide (30 < l.length) = false := by simp; omega
    have d2 : decide ((30 : Int) < (l.length : Int)) = false := by simp; omega
    have d3 : decide ((500 : Int) < (m1.size : Int)) = false := by simp; omega
    subst hvv
    have p_1 := kp0.cell 1
    have r_1 := kq0.cell 1
    simp at p_1 r_1
    go_enter Tryz.func4, Tryz.ntmps4
    go_wp2_with fail
    with_reducible refine (hSh _ (hN.below B0)).mono ?_
    rintro e w1 ⟨rfl, B1⟩
    go_wp2
    go_ret
    exact ⟨rfl, bthen B0 B1⟩

theorem TopTwice_walk (n : Int) (v : Value) (l : List Cm) (c d : Cm) (cut1 : Int) (m1 : ByteArray) (cut2 : Int) (m2 : ByteArray) (hn : 0 ≤ n ∧ n < 256) (hok : ∀ x ∈ l, x.ok) (hln : l.length ≤ maxLen) (hc : c.ok) (hd : d.ok)
    (w1 : (Lit.int .i64 cut1).wf = true) (z1 : m1.size ≤ maxLen) (w2 : (Lit.int .i64 cut2).wf = true) (z2 : m2.size ≤ maxLen) (w : World) (hN : NoneG w) (hA : CmsV w v l) :
    Calls Tryz.prog 4 #[.int .u8 n, v, cmV c, cmV d, .agg #[.int .i64 cut1, .string m1], .agg #[.int .i64 cut2, .string m2]] w fun e w' => e = .returned (.bool true) ∧ Below w.heap.size w w' := by
  by_cases h1 : 30 < l.length
  · exact twice_out n v l c d cut1 m1 cut2 m2 w hN hA (.inl h1)
  · by_cases h2 : 500 < m1.size
    · exact twice_out n v l c d cut1 m1 cut2 m2 w hN hA (.inr (.inl ⟨by omega, h2⟩))
    · by_cases h3 : 500 < m2.size
      · exact twice_out n v l c d cut1 m1 cut2 m2 w hN hA (.inr (.inr ⟨by omega, by omega, h3⟩))
      · exact twice_main n v l c d cut1 m1 cut2 m2 hn hok (by omega) hc hd (by omega) (by omega) w hN hA
end Go.Proofs.YtebkeocpojlepaaGreatDoor
