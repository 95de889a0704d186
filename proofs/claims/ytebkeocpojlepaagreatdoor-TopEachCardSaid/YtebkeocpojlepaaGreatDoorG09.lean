/- Contracts and plain laws, put together: Vote. -/
import Derived.Test.YtebkeocpojlepaaGreatDoorG07
import Derived.Test.YtebkeocpojlepaaGreatDoorG04
/- vote.Vote at the two samples of the top's theorems. -/
namespace Go.Proofs.YtebkeocpojlepaaGreatDoor
open Go.RowKit Ieee
set_option linter.unusedVariables false
set_option linter.unusedSimpArgs false

def cntB : List Bool → Nat
  | [] => 0
  | b :: r => (if b then 1 else 0) + cntB r
theorem cntB_le (L : List Bool) : cntB L ≤ L.length := by
  induction L with
  | nil => simp [cntB]
  | cons b r ih => unfold cntB; simp only [List.length_cons]; split <;> omega
theorem cntB_snoc (L : List Bool) (k : Nat) (h : k < L.length) : cntB (L.take (k + 1)) = cntB (L.take k) + if L[k] then 1 else 0 := by
  induction L generalizing k with
  | nil => simp at h
  | cons b r ih =>
    cases k with
    | zero => simp [cntB]
    | succ k =>
      simp only [List.take_succ_cons, cntB, List.getElem_cons_succ]
      have := ih k (by simpa using h)
      omega

set_option maxRecDepth 100000 in
theorem vcount_any (L : List Bool) (hl : L.length ≤ 10) (g c : Nat) (w : World) (hg : g < w.heap.size) (hc : ∀ k (h : k < L.length), w.cell? ⟨g, k, none⟩ = some (.bool L[k])) :
    Calls Tryz.prog 101 #[.slice (some ⟨g, 0, none⟩) L.length c] w fun e w' => e = .returned (.int .i64 (cntB L : Nat)) ∧ Below w.heap.size w w' := by
  have HC := Lib.hid hc
  clear hc
  go_enter Tryz.func101, Tryz.ntmps101
  go_wp2_with fail
  go_loop [2, 7] (fun n i => ∃ k : Nat, k ≤ L.length ∧ i = .int .i64 k ∧ n = .int .i64 (cntB (L.take k) : Nat)) (fun _ i => L.length - (intOf i).toNat)
  case atStart => exact ⟨0, by omega, rfl, rfl⟩
  case round =>
    obtain ⟨k, hk, rfl, rfl⟩ := hrel
    by_cases hlt : k < L.length
    · have h1 := HC.out k hlt
      have hs := Lib.hid (cntB_snoc L k hlt)
      have hle := cntB_le (L.take k)
      rw [List.length_take] at hle
      generalize L[k] = b at *
      generalize cntB (L.take k) = n at *
      cases b
      · go_wp2
        go_round
        case rel => exact ⟨k + 1, by omega, by go_num, by rw [hs.out]; rfl⟩
        case measure => simp [intOf]; omega
      · go_wp2
        go_round
        case rel => exact ⟨k + 1, by omega, by go_num, by rw [hs.out]; go_num⟩
        case measure => simp [intOf]; omega
    · have hk2 : k = L.length := by omega
      subst hk2
      rw [List.take_length]
      go_wp2
      go_ret
      exact ⟨rfl, Below.refl _ _⟩

set_option maxRecDepth 100000 in
theorem vbroken_any (L : List Nat) (hl : L.length ≤ 10) (hn : ∀ x ∈ L, ¬ 9218868437227405312 < rungF x) (g c : Nat) (w : World) (hg : g < w.heap.size) (hc : ∀ k (h : k < L.length), w.cell? ⟨g, k, none⟩ = some (.float .f64 L[k])) :
    Calls Tryz.prog 73 #[.slice (some ⟨g, 0, none⟩) L.length c] w fun e w' => e = .returned (.bool false) ∧ Below w.heap.size w w' := by
  have HC := Lib.hid hc
  have HN := Lib.hid hn
  clear hc hn
  go_enter Tryz.func73, Tryz.ntmps73
  go_wp2_with fail
  go_loopw [7] (fun i wr => ∃ k : Nat, k ≤ L.length ∧ i = .int .i64 k ∧ Below w.heap.size w wr) (fun i _ => L.length - (intOf i).toNat)
  case atStart => exact ⟨0, by omega, rfl, Below.refl _ _⟩
  case round =>
    obtain ⟨k, hk, rfl, hb⟩ := hrel
    by_cases hlt : k < L.length
    · have h1 : wr.cell? ⟨g, k, none⟩ = some (.float .f64 L[k]) := (hb.cell (p := ⟨g, k, none⟩) hg).trans (HC.out k hlt)
      have hC := Class_num L[k] (HN.out _ (List.getElem_mem hlt))
      generalize L[k] = x at *
      have hz := hb.size
      go_wp2_with ((with_reducible refine (hC _).mono ?_); rintro e w1 ⟨n, rfl, hn5, b1⟩)
      exact ⟨⟨k + 1, by omega, by go_num, bthen hb b1⟩, by simp [intOf]; omega⟩
    · have hk2 : k = L.length := by omega
      subst hk2
      go_wp2
      go_ret
      exact ⟨rfl, hb⟩

/-- the cells of a sample -/
abbrev saC (a s t : Nat) : Array Value := #[.float .f64 a, .float .f64 s, .float .f64 t]
abbrev saV (a s t : Nat) : Value := .agg (saC a s t)

set_option maxRecDepth 100000 in
theorem Air_zero (w : World) : Calls Tryz.prog 74 #[saV 0 0 0] w fun e w' => e = .returned (.int .i64 0) ∧ Below w.heap.size w w' := by
  have hA := Abs_any 0 (by decide)
  have hF := fun (W : World) (g cp : Nat) (hg : g < W.heap.size) => vcount_any [false, false, false] (by simp) g cp W hg
  have f1 : (FloatKind.f64.format.order 0 4611686018427387904 == some .gt) = false := by decide
  have f2 : (FloatKind.f64.format.order (rungF 0) 4613937818241073152 == some .gt) = false := by decide
  have f3 : (FloatKind.f64.format.order 0 4598175219545276416 == some .gt) = false := by decide
  have kS0 := Blk.new w 53 (saC 0 0 0)
  have B0 : Below w.heap.size w (w.alloc (.cells (saC 0 0 0) 53)) := (Below.refl _ w).alloc (Nat.le_refl _) _
  go_enter Tryz.func74, Tryz.ntmps74
  go_wp2_with fail
  generalize World.alloc w _ = W0 at *
  have x_0 : ∀ n : CalmW W0.heap.size W0, n.val.cell? ⟨w.heap.size, 0, none⟩ = some (.float .f64 0) := fun n => ((kS0.below n.below kS0.lt).cell 0).trans (by simp)
  have x_1 : ∀ n : CalmW W0.heap.size W0, n.val.cell? ⟨w.heap.size, 1, none⟩ = some (.float .f64 0) := fun n => ((kS0.below n.below kS0.lt).cell 1).trans (by simp)
  have x_2 : ∀ n : CalmW W0.heap.size W0, n.val.cell? ⟨w.heap.size, 2, none⟩ = some (.float .f64 0) := fun n => ((kS0.below n.below kS0.lt).cell 2).trans (by simp)
  refine wp_region_calm_head W0.heap.size 10 3 #[true, true, true, true, true, true, true, true, true, true, false, false, false] (by kernel_rfl) (by kernel_rfl) rfl ?_
  simp only [List.take_succ_cons, List.take_zero]
  repeat (go_big_quiet_step ((with_reducible refine calm_of (Nat.le_refl _) (hA _))))
  refine wpQuiet_nil ?_
  intro W4 hw4
  obtain ⟨⟨W5, b4⟩, hw5⟩ := hw4
  obtain rfl : W4 = W5 := hw5
  clear x_0 x_1 x_2
  refine wpAny_ready (rs := [10]) (by kernel_rfl) (by simp) ?_
  refine AllReady.cons rfl (fun K hK => ?_) AllReady.nil
  go_simp
  refine hK _ _ ?_
  clear hK K
  have B4 := bthen B0 b4
  have kS := Blk.new W4 4 #[.bool false, .bool false, .bool false]
  have B5 := B4.alloc B4.size (.cells #[.bool false, .bool false, .bool false] 4)
  generalize World.alloc W4 _ = W6 at *
  have hF6 := hF W6 W4.heap.size 3 kS.lt (by
    intro k hk
    have hk2 : k = 0 ∨ k = 1 ∨ k = 2 := by simp at hk; omega
    rcases hk2 with rfl | rfl | rfl <;> exact (kS.cell _).trans (by simp))
  refine wpAny_ready (rs := [11]) (by kernel_rfl) (by simp) ?_
  refine AllReady.cons rfl (fun K hK => ?_) AllReady.nil
  go_simp
  refine hF6.mono ?_
  rintro e w7 ⟨rfl, q7⟩
  refine hK _ _ ?_
  clear hK K hF6 hF
  have B7 := bthen B5 q7
  refine wpAny_ready (rs := [12]) (by kernel_rfl) (by simp) ?_
  refine AllReady.cons rfl (fun K hK => ?_) AllReady.nil
  go_simp
  refine hK _ _ ?_
  clear hK K
  refine wpAny_done (by kernel_rfl) ?_ _
  go_wp2
  go_ret
  exact ⟨rfl, B7⟩
set_option maxRecDepth 100000 in
theorem Air_air (w : World) : Calls Tryz.prog 74 #[saV 4621819117588971520 4621819117588971520 0] w fun e w' => e = .returned (.int .i64 2) ∧ Below w.heap.size w w' := by
  have hA := Abs_any 4621819117588971520 (by decide)
  have hF := fun (W : World) (g cp : Nat) (hg : g < W.heap.size) => vcount_any [true, true, false] (by simp) g cp W hg
  have f1 : (FloatKind.f64.format.order 4621819117588971520 4611686018427387904 == some .gt) = true := by decide
  have f2 : (FloatKind.f64.format.order (rungF 4621819117588971520) 4613937818241073152 == some .gt) = true := by decide
  have f3 : (FloatKind.f64.format.order 0 4598175219545276416 == some .gt) = false := by decide
  have kS0 := Blk.new w 53 (saC 4621819117588971520 4621819117588971520 0)
  have B0 : Below w.heap.size w (w.alloc (.cells (saC 4621819117588971520 4621819117588971520 0) 53)) := (Below.refl _ w).alloc (Nat.le_refl _) _
  go_enter Tryz.func74, Tryz.ntmps74
  go_wp2_with fail
  generalize World.alloc w _ = W0 at *
  have x_0 : ∀ n : CalmW W0.heap.size W0, n.val.cell? ⟨w.heap.size, 0, none⟩ = some (.float .f64 4621819117588971520) := fun n => ((kS0.below n.below kS0.lt).cell 0).trans (by simp)
  have x_1 : ∀ n : CalmW W0.heap.size W0, n.val.cell? ⟨w.heap.size, 1, none⟩ = some (.float .f64 4621819117588971520) := fun n => ((kS0.below n.below kS0.lt).cell 1).trans (by simp)
  have x_2 : ∀ n : CalmW W0.heap.size W0, n.val.cell? ⟨w.heap.size, 2, none⟩ = some (.float .f64 0) := fun n => ((kS0.below n.below kS0.lt).cell 2).trans (by simp)
  refine wp_region_calm_head W0.heap.size 10 3 #[true, true, true, true, true, true, true, true, true, true, false, false, false] (by kernel_rfl) (by kernel_rfl) rfl ?_
  simp only [List.take_succ_cons, List.take_zero]
  repeat (go_big_quiet_step ((with_reducible refine calm_of (Nat.le_refl _) (hA _))))
  refine wpQuiet_nil ?_
  intro W4 hw4
  obtain ⟨⟨W5, b4⟩, hw5⟩ := hw4
  obtain rfl : W4 = W5 := hw5
  clear x_0 x_1 x_2
  refine wpAny_ready (rs := [10]) (by kernel_rfl) (by simp) ?_
  refine AllReady.cons rfl (fun K hK => ?_) AllReady.nil
  go_simp
  refine hK _ _ ?_
  clear hK K
  have B4 := bthen B0 b4
  have kS := Blk.new W4 4 #[.bool true, .bool true, .bool false]
  have B5 := B4.alloc B4.size (.cells #[.bool true, .bool true, .bool false] 4)
  generalize World.alloc W4 _ = W6 at *
  have hF6 := hF W6 W4.heap.size 3 kS.lt (by
    intro k hk
    have hk2 : k = 0 ∨ k = 1 ∨ k = 2 := by simp at hk; omega
    rcases hk2 with rfl | rfl | rfl <;> exact (kS.cell _).trans (by simp))
  refine wpAny_ready (rs := [11]) (by kernel_rfl) (by simp) ?_
  refine AllReady.cons rfl (fun K hK => ?_) AllReady.nil
  go_simp
  refine hF6.mono ?_
  rintro e w7 ⟨rfl, q7⟩
  refine hK _ _ ?_
  clear hK K hF6 hF
  have B7 := bthen B5 q7
  refine wpAny_ready (rs := [12]) (by kernel_rfl) (by simp) ?_
  refine AllReady.cons rfl (fun K hK => ?_) AllReady.nil
  go_simp
  refine hK _ _ ?_
  clear hK K
  refine wpAny_done (by kernel_rfl) ?_ _
  go_wp2
  go_ret
  exact ⟨rfl, B7⟩
set_option maxRecDepth 100000 in
theorem Ground_zero (w : World) : Calls Tryz.prog 75 #[saV 0 0 0] w fun e w' => e = .returned (.int .i64 3) ∧ Below w.heap.size w w' := by
  have hA := Abs_any 0 (by decide)
  have hF := fun (W : World) (g cp : Nat) (hg : g < W.heap.size) => vcount_any [true, true, true] (by simp) g cp W hg
  have f1 : (FloatKind.f64.format.order 0 4607182418800017408 == some .lt) = true := by decide
  have f2 : (FloatKind.f64.format.order (rungF 0) 4607182418800017408 == some .lt) = true := by decide
  have f3 : (FloatKind.f64.format.order 0 4593671619917905920 == some .lt) = true := by decide
  have kS0 := Blk.new w 53 (saC 0 0 0)
  have B0 : Below w.heap.size w (w.alloc (.cells (saC 0 0 0) 53)) := (Below.refl _ w).alloc (Nat.le_refl _) _
  go_enter Tryz.func75, Tryz.ntmps75
  go_wp2_with fail
  generalize World.alloc w _ = W0 at *
  have x_0 : ∀ n : CalmW W0.heap.size W0, n.val.cell? ⟨w.heap.size, 0, none⟩ = some (.float .f64 0) := fun n => ((kS0.below n.below kS0.lt).cell 0).trans (by simp)
  have x_1 : ∀ n : CalmW W0.heap.size W0, n.val.cell? ⟨w.heap.size, 1, none⟩ = some (.float .f64 0) := fun n => ((kS0.below n.below kS0.lt).cell 1).trans (by simp)
  have x_2 : ∀ n : CalmW W0.heap.size W0, n.val.cell? ⟨w.heap.size, 2, none⟩ = some (.float .f64 0) := fun n => ((kS0.below n.below kS0.lt).cell 2).trans (by simp)
  refine wp_region_calm_head W0.heap.size 10 3 #[true, true, true, true, true, true, true, true, true, true, false, false, false] (by kernel_rfl) (by kernel_rfl) rfl ?_
  simp only [List.take_succ_cons, List.take_zero]
  repeat (go_big_quiet_step ((with_reducible refine calm_of (Nat.le_refl _) (hA _))))
  refine wpQuiet_nil ?_
  intro W4 hw4
  obtain ⟨⟨W5, b4⟩, hw5⟩ := hw4
  obtain rfl : W4 = W5 := hw5
  clear x_0 x_1 x_2
  refine wpAny_ready (rs := [10]) (by kernel_rfl) (by simp) ?_
  refine AllReady.cons rfl (fun K hK => ?_) AllReady.nil
  go_simp
  refine hK _ _ ?_
  clear hK K
  have B4 := bthen B0 b4
  have kS := Blk.new W4 4 #[.bool true, .bool true, .bool true]
  have B5 := B4.alloc B4.size (.cells #[.bool true, .bool true, .bool true] 4)
  generalize World.alloc W4 _ = W6 at *
  have hF6 := hF W6 W4.heap.size 3 kS.lt (by
    intro k hk
    have hk2 : k = 0 ∨ k = 1 ∨ k = 2 := by simp at hk; omega
    rcases hk2 with rfl | rfl | rfl <;> exact (kS.cell _).trans (by simp))
  refine wpAny_ready (rs := [11]) (by kernel_rfl) (by simp) ?_
  refine AllReady.cons rfl (fun K hK => ?_) AllReady.nil
  go_simp
  refine hF6.mono ?_
  rintro e w7 ⟨rfl, q7⟩
  refine hK _ _ ?_
  clear hK K hF6 hF
  have B7 := bthen B5 q7
  refine wpAny_ready (rs := [12]) (by kernel_rfl) (by simp) ?_
  refine AllReady.cons rfl (fun K hK => ?_) AllReady.nil
  go_simp
  refine hK _ _ ?_
  clear hK K
  refine wpAny_done (by kernel_rfl) ?_ _
  go_wp2
  go_ret
  exact ⟨rfl, B7⟩

set_option maxRecDepth 100000 in
theorem Vote_zero (w : World) : Calls Tryz.prog 47 #[saV 0 0 0] w fun e w' => e = .returned (.int .i64 1) ∧ Below w.heap.size w w' := by
  have hA := Air_zero
  have hG := Ground_zero
  have hBr := fun (W : World) (g cp : Nat) (hg : g < W.heap.size) => vbroken_any [0, 0, 0] (by simp) (by intro x hx; simp at hx; rcases hx with rfl | rfl <;> decide) g cp W hg
  have kS0 := Blk.new w 53 (saC 0 0 0)
  have B0 : Below w.heap.size w (w.alloc (.cells (saC 0 0 0) 53)) := (Below.refl _ w).alloc (Nat.le_refl _) _
  go_enter Tryz.func47, Tryz.ntmps47
  have kS := Blk.new (w.alloc (.cells (saC 0 0 0) 53)) 23 #[.float .f64 0, .float .f64 0, .float .f64 0]
  rw [World.size_alloc] at kS
  have kS0' := kS0.alloc (.cells #[.float .f64 0, .float .f64 0, .float .f64 0] 23)
  have B0' := B0.alloc (by simp) (.cells #[.float .f64 0, .float .f64 0, .float .f64 0] 23)
  clear kS0 B0
  have kS0 := kS0'
  have B0 := B0'
  clear kS0' B0'
  go_wp2_with fail
  generalize World.alloc (World.alloc w _) _ = W0 at *
  have hB6 := hBr W0 (w.heap.size + 1) 3 kS.lt (by
    intro k hk
    have hk2 : k = 0 ∨ k = 1 ∨ k = 2 := by simp at hk; omega
    rcases hk2 with rfl | rfl | rfl <;> exact (kS.cell _).trans (by simp))
  simp only [List.length_cons, List.length_nil, Nat.reduceAdd] at hB6
  go_wp2_with (first | ((with_reducible refine hB6.mono ?_); rintro e w1 ⟨rfl, b1⟩; (have kS1 := kS0.below b1 kS0.lt; replace B0 := bthen B0 b1; clear kS0; have kS0 := kS1; clear kS1; have r_0 := kS0.cell 0; have r_1 := kS0.cell 1; have r_2 := kS0.cell 2; simp at r_0 r_1 r_2; have ls := kS0.lt)) | ((with_reducible refine (hA _).mono ?_); rintro e w2 ⟨rfl, b2⟩; (have kS1 := kS0.below b2 kS0.lt; replace B0 := bthen B0 b2; clear kS0; have kS0 := kS1; clear kS1; have r_0 := kS0.cell 0; have r_1 := kS0.cell 1; have r_2 := kS0.cell 2; simp at r_0 r_1 r_2; have ls := kS0.lt)) | ((with_reducible refine (hG _).mono ?_); rintro e w3 ⟨rfl, b3⟩; (have kS1 := kS0.below b3 kS0.lt; replace B0 := bthen B0 b3; clear kS0; have kS0 := kS1; clear kS1; have r_0 := kS0.cell 0; have r_1 := kS0.cell 1; have r_2 := kS0.cell 2; simp at r_0 r_1 r_2; have ls := kS0.lt)))
  go_ret
  exact ⟨rfl, B0⟩
set_option maxRecDepth 100000 in
theorem Vote_air (w : World) : Calls Tryz.prog 47 #[saV 4621819117588971520 4621819117588971520 0] w fun e w' => e = .returned (.int .i64 2) ∧ Below w.heap.size w w' := by
  have hA := Air_air
  have hG := Ground_zero
  have hBr := fun (W : World) (g cp : Nat) (hg : g < W.heap.size) => vbroken_any [4621819117588971520, 4621819117588971520, 0] (by simp) (by intro x hx; simp at hx; rcases hx with rfl | rfl <;> decide) g cp W hg
  have kS0 := Blk.new w 53 (saC 4621819117588971520 4621819117588971520 0)
  have B0 : Below w.heap.size w (w.alloc (.cells (saC 4621819117588971520 4621819117588971520 0) 53)) := (Below.refl _ w).alloc (Nat.le_refl _) _
  go_enter Tryz.func47, Tryz.ntmps47
  have kS := Blk.new (w.alloc (.cells (saC 4621819117588971520 4621819117588971520 0) 53)) 23 #[.float .f64 4621819117588971520, .float .f64 4621819117588971520, .float .f64 0]
  rw [World.size_alloc] at kS
  have kS0' := kS0.alloc (.cells #[.float .f64 4621819117588971520, .float .f64 4621819117588971520, .float .f64 0] 23)
  have B0' := B0.alloc (by simp) (.cells #[.float .f64 4621819117588971520, .float .f64 4621819117588971520, .float .f64 0] 23)
  clear kS0 B0
  have kS0 := kS0'
  have B0 := B0'
  clear kS0' B0'
  go_wp2_with fail
  generalize World.alloc (World.alloc w _) _ = W0 at *
  have hB6 := hBr W0 (w.heap.size + 1) 3 kS.lt (by
    intro k hk
    have hk2 : k = 0 ∨ k = 1 ∨ k = 2 := by simp at hk; omega
    rcases hk2 with rfl | rfl | rfl <;> exact (kS.cell _).trans (by simp))
  simp only [List.length_cons, List.length_nil, Nat.reduceAdd] at hB6
  go_wp2_with (first | ((with_reducible refine hB6.mono ?_); rintro e w1 ⟨rfl, b1⟩; (have kS1 := kS0.below b1 kS0.lt; replace B0 := bthen B0 b1; clear kS0; have kS0 := kS1; clear kS1; have r_0 := kS0.cell 0; have r_1 := kS0.cell 1; have r_2 := kS0.cell 2; simp at r_0 r_1 r_2; have ls := kS0.lt)) | ((with_reducible refine (hA _).mono ?_); rintro e w2 ⟨rfl, b2⟩; (have kS1 := kS0.below b2 kS0.lt; replace B0 := bthen B0 b2; clear kS0; have kS0 := kS1; clear kS1; have r_0 := kS0.cell 0; have r_1 := kS0.cell 1; have r_2 := kS0.cell 2; simp at r_0 r_1 r_2; have ls := kS0.lt)) | ((with_reducible refine (hG _).mono ?_); rintro e w3 ⟨rfl, b3⟩; (have kS1 := kS0.below b3 kS0.lt; replace B0 := bthen B0 b3; clear kS0; have kS0 := kS1; clear kS1; have r_0 := kS0.cell 0; have r_1 := kS0.cell 1; have r_2 := kS0.cell 2; simp at r_0 r_1 r_2; have ls := kS0.lt)))
  go_ret
  exact ⟨rfl, B0⟩
end Go.Proofs.YtebkeocpojlepaaGreatDoor
