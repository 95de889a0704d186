/- Contracts and plain laws, put together: Best, Read. -/
import Derived.Test.YtebkeocpojlepaaGreatDoorG19
import Derived.Test.YtebkeocpojlepaaGreatDoorG20
/- pick.best, Read, Other, Even. -/
namespace Go.Proofs.YtebkeocpojlepaaGreatDoor
open Go.RowKit
set_option linter.unusedVariables false
set_option linter.unusedSimpArgs false

def bestP (p q : Ps) : Ps := if q = pNone then p else if p = pNone ∨ p.gen < q.gen then q else p
def bestV (f : Fl) : Ps := bestP (ofP f.a 0) (ofP f.b 1)
abbrev twoC (p q : Ps) : Array Value := #[.int .i64 p.bank, .int .u64 (p.gen : Int), .int .u64 (p.seq : Int), .int .u64 (p.dat : Int), .int .i64 q.bank, .int .u64 (q.gen : Int), .int .u64 (q.seq : Int), .int .u64 (q.dat : Int)]
abbrev twoZ : Array Value := #[.int .i64 0, .int .u64 0, .int .u64 0, .int .u64 0, .int .i64 0, .int .u64 0, .int .u64 0, .int .u64 0]
theorem infoTwo (p q : Ps) : (Tryz.prog.info? 135).map (·.size) = some (twoC p q).size := by kernel_rfl
theorem oneTwo (p q : Ps) : (twoC p q).all (·.oneCell') = true := by kernel_rfl

theorem ofP_cases (s : ByteArray) (i : Int) : ofP s i = ⟨-1, 0, 0, 0⟩ ∨ ∃ g n d, ofP s i = ⟨i, g, n, d⟩ := by
  unfold ofP pNone
  split
  · exact .inr ⟨_, _, _, rfl⟩
  · exact .inl rfl

theorem flash_lens {f : Fl} (hf : f.ok) : f.a.size ≤ maxLen ∧ f.b.size ≤ maxLen := by
  have h0 := hf.bank 0
  have h1 := hf.bank 1
  have e0 : f.bank 0 = f.a := rfl
  have e1 : f.bank 1 = f.b := rfl
  rw [e0] at h0
  rw [e1] at h1
  unfold maxLen
  omega

set_option maxRecDepth 100000 in
set_option maxHeartbeats 4000000 in
theorem best_any (f : Fl) (hf : f.ok) (w : World) (hN : NoneG w) :
    Calls Tryz.prog 43 #[flV f] w fun e w' => e = .returned (psV (bestV f)) ∧ Below w.heap.size w w' := by
  obtain ⟨hl0, hl1⟩ := flash_lens hf
  have h1 := of_pick f.a hl0 0
  have h2 := of_pick f.b hl1 1
  have hR : bestV f = bestP (ofP f.a 0) (ofP f.b 1) := rfl
  have hp := ofP_cases f.a 0
  have hq := ofP_cases f.b 1
  generalize bestV f = R at *
  generalize ofP f.a 0 = p at *
  generalize ofP f.b 1 = q at *
  obtain ⟨fa, fb, fx, fy, fl⟩ := f
  simp only [] at h1 h2
  have k0 := (Blk.new w 30 #[.string fa, .string fb, .int .i64 fx, .int .i64 fy, .int .i64 fl]).alloc (.cells psZ 74)
  have kR := Blk.new (w.alloc (.cells #[.string fa, .string fb, .int .i64 fx, .int .i64 fy, .int .i64 fl] 30)) 74 psZ
  rw [World.size_alloc] at kR
  have B0 : Below w.heap.size w ((w.alloc (.cells #[.string fa, .string fb, .int .i64 fx, .int .i64 fy, .int .i64 fl] 30)).alloc (.cells psZ 74)) := ((Below.refl _ w).alloc (Nat.le_refl _) _).alloc (by simp) _
  go_enter Tryz.func43, Tryz.ntmps43
  go_wp2_with fail
  generalize World.alloc (World.alloc w _) _ = W0 at *
  have N0 := hN.below B0
  refine wp_region_wild W0.heap.size 10 1 9 [true, true, true, true, true, true, true, true, true, false, false] [false, false, false, false, false, false, false, false, false, false, false]
    #[true, true, true, true, true, true, true, true, true, false, false] #[true, true, true, true, true, true, true, true, true, true, false]
    (fun v w' => ∃ g, v = .pointer (some ⟨g, 0, none⟩) ∧ W0.heap.size ≤ g ∧ Blk w' g 135 twoZ) (by kernel_rfl) (by kernel_rfl) rfl (Nat.le_refl _) rfl ?_ (by kernel_rfl) ?_
  case refine_1 => rintro v w1 w2 ⟨g, rfl, hg, hB⟩ hb; exact ⟨g, rfl, hg, hB.below hb hB.lt⟩
  apply Exists.intro
  refine ⟨?_, ?_, ?_⟩
  case refine_1 =>
    intro X hX hNE
    have c0 : ∀ m : CalmX W0.heap.size W0 X, m.val.cell? ⟨w.heap.size, 0, none⟩ = some (.string fa) := fun m => (k0.below m.below k0.lt).cell 0
    have c1 : ∀ m : CalmX W0.heap.size W0 X, m.val.cell? ⟨w.heap.size, 1, none⟩ = some (.string fb) := fun m => (k0.below m.below k0.lt).cell 1
    have cN : ∀ m : CalmX W0.heap.size W0 X, NoneG m.val := fun m => N0.below m.below
    simp only [keepM]
    repeat (go_big_quiet_step (first | (with_reducible refine calmX_of hX (Nat.le_refl _) (h1 _ (cN _))) | (with_reducible refine calmX_of hX (Nat.le_refl _) (h2 _ (cN _)))))
    exact wpQuiet_nil rfl
  case refine_2 =>
    refine ⟨rfl, ?_⟩
    intro w1 hb
    refine ⟨.pointer (some ⟨w1.heap.size, 0, none⟩), w1.alloc (.cells twoZ 135), ?_, (Below.refl _ _).alloc (Nat.le_refl _) _, ⟨_, rfl, hb.size, Blk.new _ _ _⟩⟩
    go_simp
  case refine_3 =>
    rintro v hNE
    obtain ⟨⟨wv, _, g, rfl, hg0, _⟩⟩ := hNE
    refine wpQuiet_nil ?_
    rintro w2 ⟨⟨w3, b3, hh⟩, rfl⟩
    obtain ⟨g', e, hg, kT⟩ := hh
    cases e
    refine wpAny_ready (rs := [10]) (by kernel_rfl) (by simp) ?_
    refine AllReady.cons rfl (fun K hK => ?_) AllReady.nil
    refine wp_store_row 135 (.tmp 3) (.tmp 12) rfl g (twoC p q) rfl rfl 135 _ kT (infoTwo p q) rfl (oneTwo p q) ?_
    refine hK _ _ ?_
    refine wpAny_done (by kernel_rfl) ?_ _
    have kR5 := (kR.below b3 kR.lt).rowOther g (by have := kR.lt; omega) (twoC p q)
    have kT5 := kT.row (twoC p q)
    have B5 : Below w.heap.size w (w2.setRow g (twoC p q)) := bel_row (B0.trans (b3.mono B0.size)) g (Nat.le_trans B0.size hg) _
    generalize World.setRow w2 g (twoC p q) = W5 at *
    clear kR kT k0 B0 b3
    obtain ⟨tt, fr, n5⟩ := hN.below B5
    have r_0 := kT5.cell 0
    have r_1 := kT5.cell 1
    have r_2 := kT5.cell 2
    have r_3 := kT5.cell 3
    have r_4 := kT5.cell 4
    have r_5 := kT5.cell 5
    have r_6 := kT5.cell 6
    have r_7 := kT5.cell 7
    simp at r_0 r_1 r_2 r_3 r_4 r_5 r_6 r_7
    have s_0 := cell_of_row _ 0 0 _ _ fr n5
    have s_1 := cell_of_row _ 0 1 _ _ fr n5
    have s_2 := cell_of_row _ 0 2 _ _ fr n5
    have s_3 := cell_of_row _ 0 3 _ _ fr n5
    simp at s_0 s_1 s_2 s_3
    clear h1 h2 hN N0 hf hl0 hl1 kT5 n5
    rcases hq with rfl | ⟨qg, qs, qd, rfl⟩
    · rcases hp with rfl | ⟨pg, ps, pd, rfl⟩
      ·
        simp only [] at r_0 r_1 r_2 r_3 r_4 r_5 r_6 r_7
        go_wp2_with (first | (refine wpList_store_row rfl 74 (.tmp 2) (.tmp 19) rfl (w.heap.size + 1) (psC (⟨-1, 0, 0, 0⟩ : Ps)) rfl rfl 74 _ kR5 (infoPs _) rfl (onePs _) ?_) | (refine wpList_store_row rfl 74 (.tmp 2) (.tmp 35) rfl (w.heap.size + 1) (psC (⟨-1, 0, 0, 0⟩ : Ps)) rfl rfl 74 _ kR5 (infoPs _) rfl (onePs _) ?_) | (refine wpList_store_row rfl 74 (.tmp 2) (.tmp 37) rfl (w.heap.size + 1) (psC (⟨-1, 0, 0, 0⟩ : Ps)) rfl rfl 74 _ kR5 (infoPs _) rfl (onePs _) ?_))
        exact bodyPost_ret (v := psV (⟨-1, 0, 0, 0⟩ : Ps)) (results_cell_row rfl _ _ (w.heap.size + 1) 74 (psC (⟨-1, 0, 0, 0⟩ : Ps)) (0, 0) _ rfl (kR5.row _) Tryz.underlying74 rfl (infoPs _)) rfl ⟨by rw [hR]; simp [bestP, pNone, *], bel_row B5 _ (Nat.le_succ _) _⟩
      ·
        simp only [] at r_0 r_1 r_2 r_3 r_4 r_5 r_6 r_7
        go_wp2_with (first | (refine wpList_store_row rfl 74 (.tmp 2) (.tmp 19) rfl (w.heap.size + 1) (psC (⟨0, pg, ps, pd⟩ : Ps)) rfl rfl 74 _ kR5 (infoPs _) rfl (onePs _) ?_) | (refine wpList_store_row rfl 74 (.tmp 2) (.tmp 35) rfl (w.heap.size + 1) (psC (⟨-1, 0, 0, 0⟩ : Ps)) rfl rfl 74 _ kR5 (infoPs _) rfl (onePs _) ?_) | (refine wpList_store_row rfl 74 (.tmp 2) (.tmp 37) rfl (w.heap.size + 1) (psC (⟨0, pg, ps, pd⟩ : Ps)) rfl rfl 74 _ kR5 (infoPs _) rfl (onePs _) ?_))
        exact bodyPost_ret (v := psV (⟨0, pg, ps, pd⟩ : Ps)) (results_cell_row rfl _ _ (w.heap.size + 1) 74 (psC (⟨0, pg, ps, pd⟩ : Ps)) (0, 0) _ rfl (kR5.row _) Tryz.underlying74 rfl (infoPs _)) rfl ⟨by rw [hR]; simp [bestP, pNone, *], bel_row B5 _ (Nat.le_succ _) _⟩
    · rcases hp with rfl | ⟨pg, ps, pd, rfl⟩
      ·
        simp only [] at r_0 r_1 r_2 r_3 r_4 r_5 r_6 r_7
        go_wp2_with (first | (refine wpList_store_row rfl 74 (.tmp 2) (.tmp 19) rfl (w.heap.size + 1) (psC (⟨-1, 0, 0, 0⟩ : Ps)) rfl rfl 74 _ kR5 (infoPs _) rfl (onePs _) ?_) | (refine wpList_store_row rfl 74 (.tmp 2) (.tmp 35) rfl (w.heap.size + 1) (psC (⟨1, qg, qs, qd⟩ : Ps)) rfl rfl 74 _ kR5 (infoPs _) rfl (onePs _) ?_) | (refine wpList_store_row rfl 74 (.tmp 2) (.tmp 37) rfl (w.heap.size + 1) (psC (⟨-1, 0, 0, 0⟩ : Ps)) rfl rfl 74 _ kR5 (infoPs _) rfl (onePs _) ?_))
        exact bodyPost_ret (v := psV (⟨1, qg, qs, qd⟩ : Ps)) (results_cell_row rfl _ _ (w.heap.size + 1) 74 (psC (⟨1, qg, qs, qd⟩ : Ps)) (0, 0) _ rfl (kR5.row _) Tryz.underlying74 rfl (infoPs _)) rfl ⟨by rw [hR]; simp [bestP, pNone, *], bel_row B5 _ (Nat.le_succ _) _⟩
      · by_cases hlt : pg < qg
        ·
          simp only [] at r_0 r_1 r_2 r_3 r_4 r_5 r_6 r_7
          go_wp2_with (first | (refine wpList_store_row rfl 74 (.tmp 2) (.tmp 19) rfl (w.heap.size + 1) (psC (⟨0, pg, ps, pd⟩ : Ps)) rfl rfl 74 _ kR5 (infoPs _) rfl (onePs _) ?_) | (refine wpList_store_row rfl 74 (.tmp 2) (.tmp 35) rfl (w.heap.size + 1) (psC (⟨1, qg, qs, qd⟩ : Ps)) rfl rfl 74 _ kR5 (infoPs _) rfl (onePs _) ?_) | (refine wpList_store_row rfl 74 (.tmp 2) (.tmp 37) rfl (w.heap.size + 1) (psC (⟨0, pg, ps, pd⟩ : Ps)) rfl rfl 74 _ kR5 (infoPs _) rfl (onePs _) ?_))
          exact bodyPost_ret (v := psV (⟨1, qg, qs, qd⟩ : Ps)) (results_cell_row rfl _ _ (w.heap.size + 1) 74 (psC (⟨1, qg, qs, qd⟩ : Ps)) (0, 0) _ rfl (kR5.row _) Tryz.underlying74 rfl (infoPs _)) rfl ⟨by rw [hR]; simp [bestP, pNone, *], bel_row B5 _ (Nat.le_succ _) _⟩
        ·
          simp only [] at r_0 r_1 r_2 r_3 r_4 r_5 r_6 r_7
          go_wp2_with (first | (refine wpList_store_row rfl 74 (.tmp 2) (.tmp 19) rfl (w.heap.size + 1) (psC (⟨0, pg, ps, pd⟩ : Ps)) rfl rfl 74 _ kR5 (infoPs _) rfl (onePs _) ?_) | (refine wpList_store_row rfl 74 (.tmp 2) (.tmp 35) rfl (w.heap.size + 1) (psC (⟨1, qg, qs, qd⟩ : Ps)) rfl rfl 74 _ kR5 (infoPs _) rfl (onePs _) ?_) | (refine wpList_store_row rfl 74 (.tmp 2) (.tmp 37) rfl (w.heap.size + 1) (psC (⟨0, pg, ps, pd⟩ : Ps)) rfl rfl 74 _ kR5 (infoPs _) rfl (onePs _) ?_))
          exact bodyPost_ret (v := psV (⟨0, pg, ps, pd⟩ : Ps)) (results_cell_row rfl _ _ (w.heap.size + 1) 74 (psC (⟨0, pg, ps, pd⟩ : Ps)) (0, 0) _ rfl (kR5.row _) Tryz.underlying74 rfl (infoPs _)) rfl ⟨by rw [hR]; simp [bestP, pNone, *], bel_row B5 _ (Nat.le_succ _) _⟩

theorem best_cases (f : Fl) : bestV f = ⟨-1, 0, 0, 0⟩ ∨ ∃ k g n d, (k = 0 ∨ k = 1) ∧ bestV f = ⟨k, g, n, d⟩ := by
  unfold bestV
  rcases ofP_cases f.a 0 with h0 | ⟨g0, n0, d0, h0⟩ <;> rcases ofP_cases f.b 1 with h1 | ⟨g1, n1, d1, h1⟩ <;> rw [h0, h1]
  · left; simp [bestP, pNone]
  · right; exact ⟨1, g1, n1, d1, .inr rfl, by simp [bestP, pNone]⟩
  · right; exact ⟨0, g0, n0, d0, .inl rfl, by simp [bestP, pNone]⟩
  · right
    by_cases h : g0 < g1
    · exact ⟨1, g1, n1, d1, .inr rfl, by simp [bestP, pNone, h]⟩
    · exact ⟨0, g0, n0, d0, .inl rfl, by simp [bestP, pNone, h]⟩
end Go.Proofs.YtebkeocpojlepaaGreatDoor

/- pick.Read, Other, Even. -/
namespace Go.Proofs.YtebkeocpojlepaaGreatDoor
open Go.RowKit
set_option linter.unusedVariables false
set_option linter.unusedSimpArgs false

def readV (f : Fl) : Ps := if bestV f = pNone then ⟨0, 0, 0, 0⟩ else bestV f
def readE (f : Fl) : Int := if bestV f = pNone then 10 else 0

set_option maxRecDepth 100000 in
set_option maxHeartbeats 4000000 in
theorem Read_pick (f : Fl) (hf : f.ok) (w : World) (hN : NoneG w) :
    Calls Tryz.prog 28 #[flV f] w fun e w' => e = .returned (.tuple #[psV (readV f), .int .i64 (readE f)]) ∧ Below w.heap.size w w' := by
  have hc := best_cases f
  obtain ⟨fa, fb, fx, fy, fl⟩ := f
  have k0 := (Blk.new w 30 #[.string fa, .string fb, .int .i64 fx, .int .i64 fy, .int .i64 fl]).alloc (.cells psZ 74)
  have kR := Blk.new (w.alloc (.cells #[.string fa, .string fb, .int .i64 fx, .int .i64 fy, .int .i64 fl] 30)) 74 psZ
  rw [World.size_alloc] at kR
  have B0 : Below w.heap.size w ((w.alloc (.cells #[.string fa, .string fb, .int .i64 fx, .int .i64 fy, .int .i64 fl] 30)).alloc (.cells psZ 74)) := ((Below.refl _ w).alloc (Nat.le_refl _) _).alloc (by simp) _
  rcases hc with hR | ⟨k, g, n, d, rfl | rfl, hR⟩
  ·
    have hB := best_any ⟨fa, fb, fx, fy, fl⟩ hf
    rw [hR] at hB
    go_enter Tryz.func28, Tryz.ntmps28
    go_wp2_with fail
    with_reducible refine (hB _ (hN.below B0)).mono ?_
    rintro e w1 ⟨rfl, q1⟩
    (have B1 := bthen B0 q1; have k1 := kR.below q1 kR.lt; obtain ⟨tt, fr, n1⟩ := hN.below B1; have n3 := (heap_alloc_old w1 (.cells (psC (⟨-1, 0, 0, 0⟩ : Ps)) 74) 0 (Array.getElem?_eq_some_iff.1 n1).1).trans n1; have k3 := k1.alloc (.cells (psC (⟨-1, 0, 0, 0⟩ : Ps)) 74); have j3 := Blk.new w1 74 (psC (⟨-1, 0, 0, 0⟩ : Ps)); have B3 := B1.alloc (Nat.le_trans (Nat.le_succ _) (Nat.le_of_lt k1.lt)) (.cells (psC (⟨-1, 0, 0, 0⟩ : Ps)) 74); clear B1 k1 n1 q1)
    go_wp2_with (first | (refine wpList_load_row rfl 74 (.global 0) rfl 0 rfl tt psN fr _ n3 Tryz.underlying74 rfl infoPsN ?_) | (refine wpList_load_row rfl 74 (.tmp 4) rfl w1.heap.size rfl 74 (psC (⟨-1, 0, 0, 0⟩ : Ps)) (0, 0) _ j3 Tryz.underlying74 rfl (infoPs _) ?_) | (refine wpList_store_row rfl 74 (.tmp 2) (.tmp 11) rfl (w.heap.size + 1) (psC (⟨-1, 0, 0, 0⟩ : Ps)) rfl rfl 74 _ k3 (infoPs _) rfl (onePs _) ?_) | (refine wpList_store_row rfl 74 (.tmp 2) (.tmp 10) rfl (w.heap.size + 1) psZ rfl rfl 74 _ k3 (infoPs ⟨0, 0, 0, 0⟩) rfl (onePs ⟨0, 0, 0, 0⟩) ?_))
    exact bodyPost_ret (results_two rfl _ _ (w.heap.size + 1) 74 (psC (⟨0, 0, 0, 0⟩ : Ps)) (0, 0) _ (.int .i64 10) rfl rfl (k3.row _) Tryz.underlying74 rfl (infoPs _)) rfl ⟨by unfold readV readE; rw [hR]; rfl, bel_row B3 _ (Nat.le_succ _) _⟩
  ·
    have hB := best_any ⟨fa, fb, fx, fy, fl⟩ hf
    rw [hR] at hB
    go_enter Tryz.func28, Tryz.ntmps28
    go_wp2_with fail
    with_reducible refine (hB _ (hN.below B0)).mono ?_
    rintro e w1 ⟨rfl, q1⟩
    (have B1 := bthen B0 q1; have k1 := kR.below q1 kR.lt; obtain ⟨tt, fr, n1⟩ := hN.below B1; have n3 := (heap_alloc_old w1 (.cells (psC (⟨0, g, n, d⟩ : Ps)) 74) 0 (Array.getElem?_eq_some_iff.1 n1).1).trans n1; have k3 := k1.alloc (.cells (psC (⟨0, g, n, d⟩ : Ps)) 74); have j3 := Blk.new w1 74 (psC (⟨0, g, n, d⟩ : Ps)); have B3 := B1.alloc (Nat.le_trans (Nat.le_succ _) (Nat.le_of_lt k1.lt)) (.cells (psC (⟨0, g, n, d⟩ : Ps)) 74); clear B1 k1 n1 q1)
    go_wp2_with (first | (refine wpList_load_row rfl 74 (.global 0) rfl 0 rfl tt psN fr _ n3 Tryz.underlying74 rfl infoPsN ?_) | (refine wpList_load_row rfl 74 (.tmp 4) rfl w1.heap.size rfl 74 (psC (⟨0, g, n, d⟩ : Ps)) (0, 0) _ j3 Tryz.underlying74 rfl (infoPs _) ?_) | (refine wpList_store_row rfl 74 (.tmp 2) (.tmp 11) rfl (w.heap.size + 1) (psC (⟨0, g, n, d⟩ : Ps)) rfl rfl 74 _ k3 (infoPs _) rfl (onePs _) ?_) | (refine wpList_store_row rfl 74 (.tmp 2) (.tmp 10) rfl (w.heap.size + 1) psZ rfl rfl 74 _ k3 (infoPs ⟨0, 0, 0, 0⟩) rfl (onePs ⟨0, 0, 0, 0⟩) ?_))
    exact bodyPost_ret (results_two rfl _ _ (w.heap.size + 1) 74 (psC (⟨0, g, n, d⟩ : Ps)) (0, 0) _ (.int .i64 0) rfl rfl (k3.row _) Tryz.underlying74 rfl (infoPs _)) rfl ⟨by unfold readV readE; rw [hR]; rfl, bel_row B3 _ (Nat.le_succ _) _⟩
  ·
    have hB := best_any ⟨fa, fb, fx, fy, fl⟩ hf
    rw [hR] at hB
    go_enter Tryz.func28, Tryz.ntmps28
    go_wp2_with fail
    with_reducible refine (hB _ (hN.below B0)).mono ?_
    rintro e w1 ⟨rfl, q1⟩
    (have B1 := bthen B0 q1; have k1 := kR.below q1 kR.lt; obtain ⟨tt, fr, n1⟩ := hN.below B1; have n3 := (heap_alloc_old w1 (.cells (psC (⟨1, g, n, d⟩ : Ps)) 74) 0 (Array.getElem?_eq_some_iff.1 n1).1).trans n1; have k3 := k1.alloc (.cells (psC (⟨1, g, n, d⟩ : Ps)) 74); have j3 := Blk.new w1 74 (psC (⟨1, g, n, d⟩ : Ps)); have B3 := B1.alloc (Nat.le_trans (Nat.le_succ _) (Nat.le_of_lt k1.lt)) (.cells (psC (⟨1, g, n, d⟩ : Ps)) 74); clear B1 k1 n1 q1)
    go_wp2_with (first | (refine wpList_load_row rfl 74 (.global 0) rfl 0 rfl tt psN fr _ n3 Tryz.underlying74 rfl infoPsN ?_) | (refine wpList_load_row rfl 74 (.tmp 4) rfl w1.heap.size rfl 74 (psC (⟨1, g, n, d⟩ : Ps)) (0, 0) _ j3 Tryz.underlying74 rfl (infoPs _) ?_) | (refine wpList_store_row rfl 74 (.tmp 2) (.tmp 11) rfl (w.heap.size + 1) (psC (⟨1, g, n, d⟩ : Ps)) rfl rfl 74 _ k3 (infoPs _) rfl (onePs _) ?_) | (refine wpList_store_row rfl 74 (.tmp 2) (.tmp 10) rfl (w.heap.size + 1) psZ rfl rfl 74 _ k3 (infoPs ⟨0, 0, 0, 0⟩) rfl (onePs ⟨0, 0, 0, 0⟩) ?_))
    exact bodyPost_ret (results_two rfl _ _ (w.heap.size + 1) 74 (psC (⟨1, g, n, d⟩ : Ps)) (0, 0) _ (.int .i64 0) rfl rfl (k3.row _) Tryz.underlying74 rfl (infoPs _)) rfl ⟨by unfold readV readE; rw [hR]; rfl, bel_row B3 _ (Nat.le_succ _) _⟩

theorem read_cases (f : Fl) : (readE f = 10 ∧ readV f = ⟨0, 0, 0, 0⟩ ∧ bestV f = pNone) ∨ (readE f = 0 ∧ readV f = bestV f ∧ bestV f ≠ pNone ∧ ((bestV f).bank = 0 ∨ (bestV f).bank = 1)) := by
  unfold readE readV
  rcases best_cases f with h | ⟨k, g, n, d, hk, h⟩
  · left; rw [h]; exact ⟨rfl, rfl, rfl⟩
  · right
    have hn : (⟨k, g, n, d⟩ : Ps) ≠ pNone := by intro e; unfold pNone at e; injection e with e1; omega
    rw [h, if_neg hn, if_neg hn]
    exact ⟨rfl, rfl, hn, hk⟩

set_option maxRecDepth 100000 in
theorem other_ix (w : World) (k : Int) (hk : k = 0 ∨ k = 1) : Calls Tryz.prog 90 #[.int .i64 k] w fun e w' => e = .returned (.int .i64 (1 - k)) ∧ w = w' := by
  have i0 : ∀ w, (Instr.index 28 (.agg #[.int .i64 1, .int .i64 0]) (.int .u64 (min 1 0))).run Tryz.prog w = .ok (.int .i64 1) w := fun w => by kernel_rfl
  have i1 : ∀ w, (Instr.index 28 (.agg #[.int .i64 1, .int .i64 0]) (.int .u64 1)).run Tryz.prog w = .ok (.int .i64 0) w := fun w => by kernel_rfl
  rcases hk with rfl | rfl
  all_goals
    go_enter Tryz.func90, Tryz.ntmps90
    go_wp2
    go_ret
    exact ⟨rfl, rfl⟩

theorem calmX_same {P : Program} {f : FuncId} {args : Array Value} {B : Nat} {w : World} {X : World → Prop} {n : CalmX B w X} {v : Value}
    (h : Calls P f args n.val fun e w' => e = .returned v ∧ n.val = w') : Calls P f args n.val fun e w'' => e = .returned v ∧ ∃ m : CalmX B w X, w'' = m.val :=
  h.mono fun _ w' ⟨he, hb⟩ => ⟨he, n, hb.symm⟩

def evenF (f : Fl) : Bool := decide (0 < slotsL (f.a.size : Int)) && decide (slotsL (f.a.size : Int) = slotsL (f.b.size : Int))
theorem infoI2 (p q : Int) : (Tryz.prog.info? 28).map (·.size) = some (#[.int .i64 p, .int .i64 q] : Array Value).size := by kernel_rfl
theorem oneI2 (p q : Int) : (#[.int .i64 p, .int .i64 q] : Array Value).all (·.oneCell') = true := by kernel_rfl

set_option maxRecDepth 100000 in
set_option maxHeartbeats 4000000 in
theorem Even_any (f : Fl) (hf : f.ok) (w : World) :
    Calls Tryz.prog 88 #[flV f] w fun e w' => e = .returned (.bool (evenF f)) ∧ Below w.heap.size w w' := by
  obtain ⟨hl0, hl1⟩ := flash_lens hf
  unfold maxLen at hl0 hl1
  have h1 := fun W => slots_any (f.a.size : Int) W (by omega) (by omega)
  have h2 := fun W => slots_any (f.b.size : Int) W (by omega) (by omega)
  have hR : evenF f = (decide (0 < slotsL (f.a.size : Int)) && decide (slotsL (f.a.size : Int) = slotsL (f.b.size : Int))) := rfl
  have HR := Lib.hid hR
  clear hR
  generalize evenF f = R at *
  generalize slotsL (f.a.size : Int) = p at *
  generalize slotsL (f.b.size : Int) = q at *
  obtain ⟨fa, fb, fx, fy, fl⟩ := f
  simp only [] at h1 h2
  have k0 := Blk.new w 30 #[.string fa, .string fb, .int .i64 fx, .int .i64 fy, .int .i64 fl]
  have B0 : Below w.heap.size w (w.alloc (.cells #[.string fa, .string fb, .int .i64 fx, .int .i64 fy, .int .i64 fl] 30)) := (Below.refl _ w).alloc (Nat.le_refl _) _
  go_enter Tryz.func88, Tryz.ntmps88
  go_wp2_with fail
  generalize World.alloc w _ = W0 at *
  refine wp_region_wild W0.heap.size 12 1 11 [true, true, true, true, true, true, true, true, true, true, true, false, false] [false, false, false, false, false, false, false, false, false, false, false, false, false]
    #[true, true, true, true, true, true, true, true, true, true, true, false, false] #[true, true, true, true, true, true, true, true, true, true, true, true, false]
    (fun v w' => ∃ g, v = .pointer (some ⟨g, 0, none⟩) ∧ W0.heap.size ≤ g ∧ Blk w' g 28 #[.int .i64 0, .int .i64 0]) (by kernel_rfl) (by kernel_rfl) rfl (Nat.le_refl _) rfl ?_ (by kernel_rfl) ?_
  case refine_1 => rintro v w1 w2 ⟨g, rfl, hg, hB⟩ hb; exact ⟨g, rfl, hg, hB.below hb hB.lt⟩
  apply Exists.intro
  refine ⟨?_, ?_, ?_⟩
  case refine_1 =>
    intro X hX hNE
    have c0 : ∀ m : CalmX W0.heap.size W0 X, m.val.cell? ⟨w.heap.size, 0, none⟩ = some (.string fa) := fun m => (k0.below m.below k0.lt).cell 0
    have c1 : ∀ m : CalmX W0.heap.size W0 X, m.val.cell? ⟨w.heap.size, 1, none⟩ = some (.string fb) := fun m => (k0.below m.below k0.lt).cell 1
    simp only [keepM]
    repeat (go_big_quiet_step (first | (with_reducible refine calmX_same (h1 _)) | (with_reducible refine calmX_same (h2 _))))
    exact wpQuiet_nil rfl
  case refine_2 =>
    refine ⟨rfl, ?_⟩
    intro w1 hb
    refine ⟨.pointer (some ⟨w1.heap.size, 0, none⟩), w1.alloc (.cells #[.int .i64 0, .int .i64 0] 28), ?_, (Below.refl _ _).alloc (Nat.le_refl _) _, ⟨_, rfl, hb.size, Blk.new _ _ _⟩⟩
    go_simp
  case refine_3 =>
    rintro v hNE
    obtain ⟨⟨wv, _, g, rfl, hg0, _⟩⟩ := hNE
    refine wpQuiet_nil ?_
    rintro w2 ⟨⟨w3, b3, hh⟩, rfl⟩
    obtain ⟨g', e, hg, kT⟩ := hh
    cases e
    refine wpAny_ready (rs := [12]) (by kernel_rfl) (by simp) ?_
    refine AllReady.cons rfl (fun K hK => ?_) AllReady.nil
    refine wp_store_row 28 (.tmp 3) (.tmp 14) rfl g #[.int .i64 p, .int .i64 q] rfl rfl 28 _ kT (infoI2 p q) rfl (oneI2 p q) ?_
    refine hK _ _ ?_
    refine wpAny_done (by kernel_rfl) ?_ _
    have kT5 := kT.row #[.int .i64 p, .int .i64 q]
    have B5 : Below w.heap.size w (w2.setRow g #[.int .i64 p, .int .i64 q]) := bel_row (B0.trans (b3.mono B0.size)) g (Nat.le_trans B0.size hg) _
    generalize World.setRow w2 g _ = W5 at *
    clear kT k0 B0 b3 h1 h2
    have r_0 := kT5.cell 0
    have r_1 := kT5.cell 1
    simp at r_0 r_1
    by_cases d1 : 0 < p
    · by_cases d2 : p = q
      · have e1 : decide (0 < p) = true := by simpa using d1
        have e2 : (p == q) = true := by simpa using d2
        subst d2
        go_wp2
        go_ret
        exact ⟨ret_bool (by rw [HR.out, e1]; simp), B5⟩
      · have e1 : decide (0 < p) = true := by simpa using d1
        have e2 : (p == q) = false := by simpa using d2
        go_wp2
        go_ret
        exact ⟨ret_bool (by rw [HR.out, e1]; simp [d2]), B5⟩
    · have e1 : decide (0 < p) = false := by simpa using d1
      go_wp2
      go_ret
      exact ⟨ret_bool (by rw [HR.out, e1]; rfl), B5⟩
end Go.Proofs.YtebkeocpojlepaaGreatDoor
