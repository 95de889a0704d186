/- The walk of the law PowerEnds, no cut. -/
import Derived.Test.YthagnnaemcknfaaPowEnds
namespace Go.Proofs.Ythagnnaemcknfaa
open Go.RowKit
set_option linter.unusedVariables false
set_option linter.unusedSimpArgs false

set_option maxRecDepth 100000 in
set_option maxHeartbeats 4000000 in
theorem ends_some (f : Fl) (hf : f.ok) (b o cap : Nat) (L : List Oq) (cut : Int) (hc : cut < 0 ∨ (L.length : Int) ≤ cut) (mask : ByteArray) (hL : ∀ x ∈ L, x.ok) (wm : mask.size ≤ maxLen) (h : bigB f L mask = false) (w : World) (hA : OpsA w b o L) :
    Calls Try.prog 5 #[flV f, .slice (some ⟨b, o, none⟩) L.length cap, .int .i64 cut, .string mask] w fun e w' => e = .returned (.bool true) ∧ Below w.heap.size w w' := by
  have hV : OpsV w (.slice (some ⟨b, o, none⟩) L.length cap) L := .inr ⟨b, o, cap, rfl, hA⟩
  have d1 : decide (0 ≤ cut) = false ∨ (decide (0 ≤ cut) = true ∧ decide (cut < (L.length : Int)) = false) := by
    rcases hc with h | h
    · left; simp; omega
    · right; exact ⟨by simp; omega, by simp; omega⟩
  have HC := Lib.hid hc
  clear hc
  have hbn := bigB_no h
  have wa : f.a.size ≤ maxLen := by unfold maxLen; omega
  have wb : f.b.size ≤ maxLen := by unfold maxLen; omega
  have hl : L.length ≤ maxLen := by unfold maxLen; omega
  have hl2 : L.length ≤ 20 := hbn.2.2.2.1
  have hm1 : mask.size ≤ 1000 := by omega
  have hbig := fun W => big_any f wa wb (.slice (some ⟨b, o, none⟩) L.length cap) L (fun x hx => (hL x hx).hd) hl mask wm W
  have hPl := fun W => Play_any f hf (.slice (some ⟨b, o, none⟩) L.length cap) L hL (by omega) cut mask hm1 W
  clear hbn
  rw [h] at hbig
  clear h
  have B0 : Below w.heap.size w (w.alloc (.cells (flC f) 25)) := (Below.refl _ w).alloc (Nat.le_refl _) _
  have kF := Blk.new w 25 (flC f)
  replace hV := hV.below B0
  go_enter Try.func5, Try.ntmps5
  go_wp2_with fail
  refine (hbig _ hV).mono ?_
  rintro e w1 ⟨rfl, b1⟩
  generalize World.alloc w _ = W0 at *
  replace hV := hV.below b1
  replace kF := kF.below b1 kF.lt
  replace B0 := bthen B0 b1
  clear b1 hbig
  go_wp2_with fail
  refine (shown_any _).mono ?_
  rintro e w2 ⟨rfl, b2⟩
  replace hV := hV.below b2
  replace kF := kF.below b2 kF.lt
  replace B0 := bthen B0 b2
  clear b2
  have r_0 := kF.cell 0
  have r_1 := kF.cell 1
  have r_2 := kF.cell 2
  have r_3 := kF.cell 3
  have r_4 := kF.cell 4
  simp at r_0 r_1 r_2 r_3 r_4
  go_wp2_with fail
  refine (hPl _ hV).mono ?_
  rintro e w3 ⟨rfl, b3⟩
  clear r_0 r_1 r_2 r_3 r_4
  have hw3 := Lib.hid (show w3.heap.size ≠ w.heap.size by have := kF.lt; have := b3.size; omega)
  generalize hR : playK cut mask f L 0 = R at *
  obtain ⟨Rf, Rn, Re⟩ := R
  have HR := Lib.hid hR.symm
  have HL := Lib.hid hL
  have HA := Lib.hid hA
  clear hR hL hA hPl hV
  replace kF := (kF.below b3 kF.lt).alloc (.cells (flC Rf) 25)
  have kA := Blk.new w3 25 (flC Rf)
  have B3 := (bthen B0 b3).alloc (bthen B0 b3).size (.cells (flC Rf) 25)
  clear b3 B0
  have hl100 : L.length ≤ 100 := by omega
  simp only at *
  rcases d1 with d1 | ⟨d1, d1'⟩
  all_goals
    go_wp2_with fail
    generalize World.alloc w3 _ = W3 at *
    (try clear d1 d1')
    go_loopw [15, 16, 17] (fun i _ _ wr => ∃ (k : Nat) (g : Fl), k ≤ L.length ∧ i = .int .i64 k ∧ g.ok ∧ (⟨Rf, Rn, Re⟩ : Pl) = playK cut mask g (L.drop k) k ∧ Blk wr w.heap.size 25 (flC g) ∧ Blk wr w3.heap.size 25 (flC Rf) ∧ Below w.heap.size w wr) (fun i _ _ _ => L.length - (intOf i).toNat)
    case atStart => exact ⟨0, f, by omega, rfl, hf, HR.out, kF, kA, B3⟩
    case round =>
      obtain ⟨k, g, hk, rfl, hg, hP, kF, kA, B⟩ := hrel
      by_cases hkl : k < L.length
      · have hkc : ¬ (k : Int) = cut := by have := HC.out; omega
        have ho := HL.out L[k] (List.getElem_mem hkl)
        have hD := fun W => Do_any g hg L[k] ho W
        have hgo := doF_ok hg L[k]
        obtain ⟨c0, c1, c2, c3⟩ := HA.out k hkl
        have hlt : b < w.heap.size := World.block_lt_of_cell? w ⟨b, _, none⟩ c0
        have had : (⟨b, o, none⟩ : Addr).add (k * 4) = ⟨b, o + k * 4, none⟩ := by rw [addr_add]
        rw [drop_cons hkl] at hP
        have hzF := kF.lt
        have hzb : b < wr.heap.size := by omega
        replace c0 := (B.cell (p := ⟨b, o + k * 4, none⟩) hlt).trans c0
        replace c1 := (B.cell (p := ⟨b, o + k * 4 + 1, none⟩) hlt).trans c1
        replace c2 := (B.cell (p := ⟨b, o + k * 4 + 2, none⟩) hlt).trans c2
        replace c3 := (B.cell (p := ⟨b, o + k * 4 + 3, none⟩) hlt).trans c3
        by_cases hE : doE g L[k] = 0
        · rw [playK_on hkc hE] at hP
          have HP := Lib.hid hP
          rw [hE] at hD
          clear hP hkc hE ho
          generalize doF g L[k] = T at *
          generalize L[k] = oo at *
          have r_0 := kF.cell 0
          have r_1 := kF.cell 1
          have r_2 := kF.cell 2
          have r_3 := kF.cell 3
          have r_4 := kF.cell 4
          simp at r_0 r_1 r_2 r_3 r_4
          go_wp2_with fail
          go_region_with (((with_reducible refine (hD _).mono ?_); rintro e w5 ⟨rfl, b5⟩; (try (have kp := Blk.below (Blk.new wr 25 zC).drew b5 (by simp); have z_0 := kp.cell 0; have z_1 := kp.cell 1; have z_2 := kp.cell 2; have z_3 := kp.cell 3; have z_4 := kp.cell 4; simp at z_0 z_1 z_2 z_3 z_4; have y_0 := kp.frozen 0; have y_1 := kp.frozen 1; have y_2 := kp.frozen 2; have y_3 := kp.frozen 3; have y_4 := kp.frozen 4))))
          all_goals first
            | (
              have kF5 := (Blk.below (show Blk wr.drew w.heap.size 25 (flC g) from kF) b5 kF.lt).alloc (.cells (flC T) 25)
              have kA5 := (Blk.below (show Blk wr.drew w3.heap.size 25 (flC Rf) from kA) b5 kA.lt).alloc (.cells (flC T) 25)
              have k12 := Blk.new w5 25 (flC T)
              have B5 := B.drew.trans (b5.mono B.size)
              have B6 := B5.alloc B5.size (.cells (flC T) 25)
              go_simp
              generalize World.alloc w5 _ = W5 at *
              clear r_0 r_1 r_2 r_3 r_4 c0 c1 c2 c3 had hD hzF hzb
              have r_0 := kF5.cell 0
              have r_1 := kF5.cell 1
              have r_2 := kF5.cell 2
              have r_3 := kF5.cell 3
              have r_4 := kF5.cell 4
              simp at r_0 r_1 r_2 r_3 r_4
              have t_0 := kF5.frozen 0
              have t_1 := kF5.frozen 1
              have t_2 := kF5.frozen 2
              have t_3 := kF5.frozen 3
              have t_4 := kF5.frozen 4
              have q_0 := k12.cell 0
              have q_1 := k12.cell 1
              have q_2 := k12.cell 2
              have q_3 := k12.cell 3
              have q_4 := k12.cell 4
              simp at q_0 q_1 q_2 q_3 q_4
              go_wp2_with fail
              obtain ⟨g0, B7⟩ := five_stores (v0 := .string T.a) (v1 := .string T.b) (v2 := .int .i64 T.x) (v3 := .int .i64 T.y) (v4 := .int .i64 T.l) kF5 B6 (Nat.le_refl _)
              replace kA5 := ((((kA5.other ⟨w.heap.size, 0, none⟩ hw3.out (.string T.a)).other ⟨w.heap.size, 1, none⟩ hw3.out (.string T.b)).other ⟨w.heap.size, 2, none⟩ hw3.out (.int .i64 T.x)).other ⟨w.heap.size, 3, none⟩ hw3.out (.int .i64 T.y)).other ⟨w.heap.size, 4, none⟩ hw3.out (.int .i64 T.l)
              clear r_0 r_1 r_2 r_3 r_4 t_0 t_1 t_2 t_3 t_4 q_0 q_1 q_2 q_3 q_4
              generalize World.setCell (World.setCell (World.setCell (World.setCell (World.setCell W5 _ _) _ _) _ _) _ _) _ _ = W7 at *
              go_roundw
              case rel => exact ⟨k + 1, T, by omega, by go_num, hgo, HP.out, g0, kA5, B7⟩
              case measure => simp [intOf]; omega
              )
            | (
              have kF5 := Blk.below (show Blk (wr.alloc (.cells zC 25)).drew w.heap.size 25 (flC g) from kF.alloc _) b5 (by have := kF.lt; simp; omega)
              have kA5 := Blk.below (show Blk (wr.alloc (.cells zC 25)).drew w3.heap.size 25 (flC Rf) from kA.alloc _) b5 (by have := kA.lt; simp; omega)
              have B5 := ((B.alloc B.size (.cells zC 25)).drew).trans (b5.mono (by have := B.size; simp; omega))
              obtain ⟨k12, B6⟩ := five_stores (v0 := .string T.a) (v1 := .string T.b) (v2 := .int .i64 T.x) (v3 := .int .i64 T.y) (v4 := .int .i64 T.l) kp B5 B.size
              replace kF5 := ((((kF5.other ⟨wr.heap.size, 0, none⟩ (by have := kF.lt; show w.heap.size ≠ wr.heap.size; omega) (.string T.a)).other ⟨wr.heap.size, 1, none⟩ (by have := kF.lt; show w.heap.size ≠ wr.heap.size; omega) (.string T.b)).other ⟨wr.heap.size, 2, none⟩ (by have := kF.lt; show w.heap.size ≠ wr.heap.size; omega) (.int .i64 T.x)).other ⟨wr.heap.size, 3, none⟩ (by have := kF.lt; show w.heap.size ≠ wr.heap.size; omega) (.int .i64 T.y)).other ⟨wr.heap.size, 4, none⟩ (by have := kF.lt; show w.heap.size ≠ wr.heap.size; omega) (.int .i64 T.l)
              replace kA5 := ((((kA5.other ⟨wr.heap.size, 0, none⟩ (by have := kA.lt; show w3.heap.size ≠ wr.heap.size; omega) (.string T.a)).other ⟨wr.heap.size, 1, none⟩ (by have := kA.lt; show w3.heap.size ≠ wr.heap.size; omega) (.string T.b)).other ⟨wr.heap.size, 2, none⟩ (by have := kA.lt; show w3.heap.size ≠ wr.heap.size; omega) (.int .i64 T.x)).other ⟨wr.heap.size, 3, none⟩ (by have := kA.lt; show w3.heap.size ≠ wr.heap.size; omega) (.int .i64 T.y)).other ⟨wr.heap.size, 4, none⟩ (by have := kA.lt; show w3.heap.size ≠ wr.heap.size; omega) (.int .i64 T.l)
              go_simp
              clear z_0 z_1 z_2 z_3 z_4 y_0 y_1 y_2 y_3 y_4
              generalize World.setCell (World.setCell (World.setCell (World.setCell (World.setCell w5 _ _) _ _) _ _) _ _) _ _ = W5 at *
              clear r_0 r_1 r_2 r_3 r_4 c0 c1 c2 c3 had hD hzF hzb
              have r_0 := kF5.cell 0
              have r_1 := kF5.cell 1
              have r_2 := kF5.cell 2
              have r_3 := kF5.cell 3
              have r_4 := kF5.cell 4
              simp at r_0 r_1 r_2 r_3 r_4
              have t_0 := kF5.frozen 0
              have t_1 := kF5.frozen 1
              have t_2 := kF5.frozen 2
              have t_3 := kF5.frozen 3
              have t_4 := kF5.frozen 4
              have q_0 := k12.cell 0
              have q_1 := k12.cell 1
              have q_2 := k12.cell 2
              have q_3 := k12.cell 3
              have q_4 := k12.cell 4
              simp at q_0 q_1 q_2 q_3 q_4
              go_wp2_with fail
              obtain ⟨g0, B7⟩ := five_stores (v0 := .string T.a) (v1 := .string T.b) (v2 := .int .i64 T.x) (v3 := .int .i64 T.y) (v4 := .int .i64 T.l) kF5 B6 (Nat.le_refl _)
              replace kA5 := ((((kA5.other ⟨w.heap.size, 0, none⟩ hw3.out (.string T.a)).other ⟨w.heap.size, 1, none⟩ hw3.out (.string T.b)).other ⟨w.heap.size, 2, none⟩ hw3.out (.int .i64 T.x)).other ⟨w.heap.size, 3, none⟩ hw3.out (.int .i64 T.y)).other ⟨w.heap.size, 4, none⟩ hw3.out (.int .i64 T.l)
              clear r_0 r_1 r_2 r_3 r_4 t_0 t_1 t_2 t_3 t_4 q_0 q_1 q_2 q_3 q_4
              generalize World.setCell (World.setCell (World.setCell (World.setCell (World.setCell W5 _ _) _ _) _ _) _ _) _ _ = W7 at *
              go_roundw
              case rel => exact ⟨k + 1, T, by omega, by go_num, hgo, HP.out, g0, kA5, B7⟩
              case measure => simp [intOf]; omega
              )
        · have hbad := doF_bad hE
          rw [playK_err hkc hE] at hP
          obtain ⟨rfl, rfl, rfl⟩ := Pl.mk.inj hP
          rw [hbad] at hD
          have hE2 : (doE Rf L[k] != 0) = true := by simpa using hE
          clear hkc hE ho hbad hP hgo
          generalize doE Rf L[k] = E at *
          generalize L[k] = oo at *
          have r_0 := kF.cell 0
          have r_1 := kF.cell 1
          have r_2 := kF.cell 2
          have r_3 := kF.cell 3
          have r_4 := kF.cell 4
          simp at r_0 r_1 r_2 r_3 r_4
          go_wp2_with fail
          go_region_with (((with_reducible refine (hD _).mono ?_); rintro e w5 ⟨rfl, b5⟩; (try (have kp := Blk.below (Blk.new wr 25 zC).drew b5 (by simp); have z_0 := kp.cell 0; have z_1 := kp.cell 1; have z_2 := kp.cell 2; have z_3 := kp.cell 3; have z_4 := kp.cell 4; simp at z_0 z_1 z_2 z_3 z_4; have y_0 := kp.frozen 0; have y_1 := kp.frozen 1; have y_2 := kp.frozen 2; have y_3 := kp.frozen 3; have y_4 := kp.frozen 4))))
          all_goals first
            | (
              have kF5 := (Blk.below (show Blk wr.drew w.heap.size 25 (flC Rf) from kF) b5 kF.lt).alloc (.cells (flC Rf) 25)
              have kA5 := (Blk.below (show Blk wr.drew w3.heap.size 25 (flC Rf) from kA) b5 kA.lt).alloc (.cells (flC Rf) 25)
              have k12 := Blk.new w5 25 (flC Rf)
              have B5 := B.drew.trans (b5.mono B.size)
              have B6 := B5.alloc B5.size (.cells (flC Rf) 25)
              go_simp
              generalize World.alloc w5 _ = W5 at *
              clear r_0 r_1 r_2 r_3 r_4 c0 c1 c2 c3 had hD hzF hzb
              have e1 := eq_strs Rf.a Rf.b Rf.a Rf.b
              have e2 := eq_ints Rf.x Rf.y Rf.x Rf.y
              have r_0 := kF5.cell 0
              have r_1 := kF5.cell 1
              have r_2 := kF5.cell 2
              have r_3 := kF5.cell 3
              have r_4 := kF5.cell 4
              simp at r_0 r_1 r_2 r_3 r_4
              have q_0 := kA5.cell 0
              have q_1 := kA5.cell 1
              have q_2 := kA5.cell 2
              have q_3 := kA5.cell 3
              have q_4 := kA5.cell 4
              simp at q_0 q_1 q_2 q_3 q_4
              go_wp2_with fail
              go_ret
              exact ⟨rfl, B6⟩
              )
            | (
              have kF5 := Blk.below (show Blk (wr.alloc (.cells zC 25)).drew w.heap.size 25 (flC Rf) from kF.alloc _) b5 (by have := kF.lt; simp; omega)
              have kA5 := Blk.below (show Blk (wr.alloc (.cells zC 25)).drew w3.heap.size 25 (flC Rf) from kA.alloc _) b5 (by have := kA.lt; simp; omega)
              have B5 := ((B.alloc B.size (.cells zC 25)).drew).trans (b5.mono (by have := B.size; simp; omega))
              obtain ⟨k12, B6⟩ := five_stores (v0 := .string Rf.a) (v1 := .string Rf.b) (v2 := .int .i64 Rf.x) (v3 := .int .i64 Rf.y) (v4 := .int .i64 Rf.l) kp B5 B.size
              replace kF5 := ((((kF5.other ⟨wr.heap.size, 0, none⟩ (by have := kF.lt; show w.heap.size ≠ wr.heap.size; omega) (.string Rf.a)).other ⟨wr.heap.size, 1, none⟩ (by have := kF.lt; show w.heap.size ≠ wr.heap.size; omega) (.string Rf.b)).other ⟨wr.heap.size, 2, none⟩ (by have := kF.lt; show w.heap.size ≠ wr.heap.size; omega) (.int .i64 Rf.x)).other ⟨wr.heap.size, 3, none⟩ (by have := kF.lt; show w.heap.size ≠ wr.heap.size; omega) (.int .i64 Rf.y)).other ⟨wr.heap.size, 4, none⟩ (by have := kF.lt; show w.heap.size ≠ wr.heap.size; omega) (.int .i64 Rf.l)
              replace kA5 := ((((kA5.other ⟨wr.heap.size, 0, none⟩ (by have := kA.lt; show w3.heap.size ≠ wr.heap.size; omega) (.string Rf.a)).other ⟨wr.heap.size, 1, none⟩ (by have := kA.lt; show w3.heap.size ≠ wr.heap.size; omega) (.string Rf.b)).other ⟨wr.heap.size, 2, none⟩ (by have := kA.lt; show w3.heap.size ≠ wr.heap.size; omega) (.int .i64 Rf.x)).other ⟨wr.heap.size, 3, none⟩ (by have := kA.lt; show w3.heap.size ≠ wr.heap.size; omega) (.int .i64 Rf.y)).other ⟨wr.heap.size, 4, none⟩ (by have := kA.lt; show w3.heap.size ≠ wr.heap.size; omega) (.int .i64 Rf.l)
              go_simp
              clear z_0 z_1 z_2 z_3 z_4 y_0 y_1 y_2 y_3 y_4
              generalize World.setCell (World.setCell (World.setCell (World.setCell (World.setCell w5 _ _) _ _) _ _) _ _) _ _ = W5 at *
              clear r_0 r_1 r_2 r_3 r_4 c0 c1 c2 c3 had hD hzF hzb
              have e1 := eq_strs Rf.a Rf.b Rf.a Rf.b
              have e2 := eq_ints Rf.x Rf.y Rf.x Rf.y
              have r_0 := kF5.cell 0
              have r_1 := kF5.cell 1
              have r_2 := kF5.cell 2
              have r_3 := kF5.cell 3
              have r_4 := kF5.cell 4
              simp at r_0 r_1 r_2 r_3 r_4
              have q_0 := kA5.cell 0
              have q_1 := kA5.cell 1
              have q_2 := kA5.cell 2
              have q_3 := kA5.cell 3
              have q_4 := kA5.cell 4
              simp at q_0 q_1 q_2 q_3 q_4
              go_wp2_with fail
              go_ret
              exact ⟨rfl, B6⟩
              )
      · obtain rfl : k = L.length := by omega
        rw [List.drop_length, playK_nil] at hP
        obtain ⟨rfl, rfl, rfl⟩ := Pl.mk.inj hP
        clear hP hl2 hl100
        have e1 := eq_strs Rf.a Rf.b Rf.a Rf.b
        have e2 := eq_ints Rf.x Rf.y Rf.x Rf.y
        have r_0 := kF.cell 0
        have r_1 := kF.cell 1
        have r_2 := kF.cell 2
        have r_3 := kF.cell 3
        have r_4 := kF.cell 4
        simp at r_0 r_1 r_2 r_3 r_4
        have q_0 := kA.cell 0
        have q_1 := kA.cell 1
        have q_2 := kA.cell 2
        have q_3 := kA.cell 3
        have q_4 := kA.cell 4
        simp at q_0 q_1 q_2 q_3 q_4
        go_wp2_with fail
        go_ret
        exact ⟨rfl, B⟩
end Go.Proofs.Ythagnnaemcknfaa
