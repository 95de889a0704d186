/- The walk of the law PowerEnds. -/
import Derived.Test.YthagnnaemcknfaaPowShown
import Derived.Test.YthagnnaemcknfaaCalmHead
import Derived.Deep.RegionWith
namespace Go.Proofs.Ythagnnaemcknfaa
open Go.RowKit
set_option linter.unusedVariables false
set_option linter.unusedSimpArgs false

theorem playK_take (c : Nat) (mask : ByteArray) (L : List Oq) : ∀ (f : Fl) (i : Nat), i ≤ c → c - i < L.length → playK c mask f (L.take (c + 1 - i)) i = playK c mask f L i ∧ (playK c mask f L i).n ≤ c := by
  induction L with
  | nil => intro f i h1 h2; simp at h2
  | cons o L ih =>
    intro f i h1 h2
    obtain ⟨m, hm⟩ : ∃ m, c + 1 - i = m + 1 := ⟨c - i, by omega⟩
    rw [hm, List.take_succ_cons]
    by_cases hc : (i : Int) = (c : Int)
    · rw [playK_cut hc, playK_cut hc]; exact ⟨rfl, by simp; omega⟩
    · by_cases hE : doE f o = 0
      · rw [playK_on hc hE, playK_on hc hE]
        have := ih (doF f o) (i + 1) (by omega) (by simp at h2; omega)
        rw [show c + 1 - (i + 1) = m by omega] at this
        exact this
      · rw [playK_err hc hE, playK_err hc hE]; exact ⟨rfl, by simp; omega⟩
theorem playK_ok (cut : Int) (mask : ByteArray) (L : List Oq) : ∀ (f : Fl) (i : Nat), f.ok → (∀ x ∈ L, x.ok) → True := fun _ _ _ _ => trivial

set_option maxRecDepth 100000 in
set_option maxHeartbeats 4000000 in
theorem ends_out (f : Fl) (v : Value) (L : List Oq) (cut : Int) (mask : ByteArray) (wa : f.a.size ≤ maxLen) (wb : f.b.size ≤ maxLen) (hL : ∀ x ∈ L, x.ok) (hl : L.length ≤ maxLen) (wm : mask.size ≤ maxLen) (h : bigB f L mask = true) (w : World) (hV : OpsV w v L) :
    Calls Try.prog 5 #[flV f, v, .int .i64 cut, .string mask] w fun e w' => e = .returned (.bool true) ∧ Below w.heap.size w w' := by
  have hB0 : Below w.heap.size w (w.alloc (.cells (flC f) 25)) := (Below.refl _ w).alloc (Nat.le_refl _) _
  have hbig := fun W => big_any f wa wb v L (fun x hx => (hL x hx).hd) hl mask wm W
  rw [h] at hbig
  replace hV := hV.below hB0
  clear h
  go_enter Try.func5, Try.ntmps5
  go_wp2_with fail
  refine (hbig _ hV).mono ?_
  rintro e w1 ⟨rfl, b1⟩
  go_wp2_with (with_reducible refine (shown_any _).mono ?_; rintro e w2 ⟨rfl, b2⟩)
  go_ret
  exact ⟨rfl, bthen (bthen hB0 b1) b2⟩

set_option maxRecDepth 100000 in
set_option maxHeartbeats 4000000 in
theorem ends_cut (f : Fl) (hf : f.ok) (b o cap : Nat) (L : List Oq) (hcap : L.length ≤ cap) (hcap2 : cap ≤ maxLen) (c : Nat) (hc : c < L.length) (mask : ByteArray) (hL : ∀ x ∈ L, x.ok) (wm : mask.size ≤ maxLen) (h : bigB f L mask = false) (w : World) (hA : OpsA w b o L) :
    Calls Try.prog 5 #[flV f, .slice (some ⟨b, o, none⟩) L.length cap, .int .i64 (c : Int), .string mask] w fun e w' => e = .returned (.bool true) ∧ Below w.heap.size w w' := by
  have hV : OpsV w (.slice (some ⟨b, o, none⟩) L.length cap) L := .inr ⟨b, o, cap, rfl, hA⟩
  obtain ⟨p1, p2⟩ := playK_take c mask L f 0 (by omega) (by omega)
  rw [Nat.sub_zero] at p1
  have hlt : (L.take (c + 1)).length = c + 1 := by rw [List.length_take]; omega
  have hA2 : OpsA w b o (L.take (c + 1)) := by
    intro i hi
    rw [List.getElem_take]
    exact hA i (by omega)
  have hV2 : OpsV w (.slice (some ⟨b, o, none⟩) (c + 1) cap) (L.take (c + 1)) := .inr ⟨b, o, cap, by rw [hlt], hA2⟩
  have hbL := (bigB_no h).2.2.2.1
  have hmL := (bigB_no h).2.2.2.2
  have hP2 := fun W => Play_any f hf (.slice (some ⟨b, o, none⟩) (c + 1) cap) (L.take (c + 1)) (fun x hx => hL x (List.mem_of_mem_take hx)) (by omega) (c : Int) mask (by omega) W
  rw [p1] at hP2
  clear hlt hA hA2 p1
  unfold maxLen at hcap2
  have hbn := bigB_no h
  have wa : f.a.size ≤ maxLen := by unfold maxLen; omega
  have wb : f.b.size ≤ maxLen := by unfold maxLen; omega
  have hl : L.length ≤ maxLen := by unfold maxLen; omega
  have hl2 : L.length ≤ 20 := hbn.2.2.2.1
  have hm1 : mask.size ≤ 1000 := by omega
  have hbig := fun W => big_any f wa wb (.slice (some ⟨b, o, none⟩) L.length cap) L (fun x hx => (hL x hx).hd) hl mask wm W
  have hPl := fun W => Play_any f hf (.slice (some ⟨b, o, none⟩) L.length cap) L hL (by omega) (c : Int) mask hm1 W
  clear hbn
  rw [h] at hbig
  clear h
  have B0 : Below w.heap.size w (w.alloc (.cells (flC f) 25)) := (Below.refl _ w).alloc (Nat.le_refl _) _
  have kF := Blk.new w 25 (flC f)
  replace hV := hV.below B0
  go_enter Try.func5, Try.ntmps5
  go_wp2_with fail
  refine (hbig _ hV).mono ?_
  rintro e w1 ⟨rfl, b1⟩
  generalize World.alloc w _ = W0 at *
  replace hV := hV.below b1
  replace kF := kF.below b1 kF.lt
  replace B0 := bthen B0 b1
  clear b1 hbig
  go_wp2_with fail
  refine (shown_any _).mono ?_
  rintro e w2 ⟨rfl, b2⟩
  replace hV := hV.below b2
  replace kF := kF.below b2 kF.lt
  replace B0 := bthen B0 b2
  clear b2
  have r_0 := kF.cell 0
  have r_1 := kF.cell 1
  have r_2 := kF.cell 2
  have r_3 := kF.cell 3
  have r_4 := kF.cell 4
  simp at r_0 r_1 r_2 r_3 r_4
  go_wp2_with fail
  refine (hPl _ hV).mono ?_
  rintro e w3 ⟨rfl, b3⟩
  clear r_0 r_1 r_2 r_3 r_4
  generalize playK (c : Int) mask f L 0 = R at *
  replace hV2 := ((hV2.below B0).below b3).below ((Below.refl w3.heap.size w3).alloc (Nat.le_refl _) (.cells (flC R.f) 25))
  replace kF := (kF.below b3 kF.lt).alloc (.cells (flC R.f) 25)
  have kA := Blk.new w3 25 (flC R.f)
  have B3 := (bthen B0 b3).alloc (bthen B0 b3).size (.cells (flC R.f) 25)
  clear b3 B0
  have r_0 := kF.cell 0
  have r_1 := kF.cell 1
  have r_2 := kF.cell 2
  have r_3 := kF.cell 3
  have r_4 := kF.cell 4
  simp at r_0 r_1 r_2 r_3 r_4
  have d1 : decide ((c : Int) < (L.length : Int)) = true := by simp; omega
  go_wp2_with fail
  generalize World.alloc w3 _ = W3 at *
  have hVB : ∀ W, Below W3.heap.size W3 W → OpsV W (.slice (some ⟨b, o, none⟩) (c + 1) cap) (L.take (c + 1)) := fun W hb => hV2.below hb
  have cw1 : IntKind.i64.wrap ((c : Int) + 1) = (c : Int) + 1 := IntWalk.i64_in _ (by omega)
  have cw2 : (0 : Int) ≤ (c : Int) + 1 := by omega
  have cw3 : ((c : Int) + 1).toNat = c + 1 := by omega
  have cw4 : c + 1 ≤ cap := by omega
  have cw5 : (c : Int) + 1 ≤ (cap : Int) := by omega
  have hzF := kF.lt
  have d2 : decide (R.n ≤ (c : Int)) = true := by simpa using p2
  clear p2
  clear hV hV2 hPl
  generalize L.take (c + 1) = L2 at *
  go_region_with ((with_reducible refine (hP2 _ (by first | exact hVB _ ((Below.refl _ _).drew) | exact hVB _ (((Below.refl _ _).alloc (Nat.le_refl _) _).drew))).mono ?_); rintro e w5 ⟨rfl, b5⟩; (try (have kp := Blk.below (Blk.new W3 25 zC).drew b5 (by simp); have z_0 := kp.cell 0; have z_1 := kp.cell 1; have z_2 := kp.cell 2; have z_3 := kp.cell 3; have z_4 := kp.cell 4; simp at z_0 z_1 z_2 z_3 z_4; have y_0 := kp.frozen 0; have y_1 := kp.frozen 1; have y_2 := kp.frozen 2; have y_3 := kp.frozen 3; have y_4 := kp.frozen 4)))
  ·
    have k9 := (Blk.below (show Blk W3.drew w3.heap.size 25 (flC R.f) from kA) b5 kA.lt).alloc (.cells (flC R.f) 25)
    have k12 := Blk.new w5 25 (flC R.f)
    have B5 := B3.drew.trans (b5.mono B3.size)
    have B6 := B5.alloc B5.size (.cells (flC R.f) 25)
    go_simp
    generalize World.alloc w5 _ = W5 at *
    clear r_0 r_1 r_2 r_3 r_4 hVB cw1 cw2 cw3 cw4 cw5 hP2 hzF
    have e1 := eq_strs R.f.a R.f.b R.f.a R.f.b
    have e2 := eq_ints R.f.x R.f.y R.f.x R.f.y
    have r_0 := k9.cell 0
    have r_1 := k9.cell 1
    have r_2 := k9.cell 2
    have r_3 := k9.cell 3
    have r_4 := k9.cell 4
    simp at r_0 r_1 r_2 r_3 r_4
    have q_0 := k12.cell 0
    have q_1 := k12.cell 1
    have q_2 := k12.cell 2
    have q_3 := k12.cell 3
    have q_4 := k12.cell 4
    simp at q_0 q_1 q_2 q_3 q_4
    go_wp2_with fail
    go_ret
    exact ⟨rfl, B6⟩
  ·
    have k9 := Blk.below (show Blk (W3.alloc (.cells zC 25)).drew w3.heap.size 25 (flC R.f) from kA.alloc _) b5 (by have := kA.lt; simp; omega)
    have B5 := ((B3.alloc B3.size (.cells zC 25)).drew).trans (b5.mono (by have := B3.size; simp; omega))
    obtain ⟨k12, B6⟩ := five_stores (v0 := .string R.f.a) (v1 := .string R.f.b) (v2 := .int .i64 R.f.x) (v3 := .int .i64 R.f.y) (v4 := .int .i64 R.f.l) kp B5 B3.size
    replace k9 := ((((k9.other ⟨W3.heap.size, 0, none⟩ (by have := kA.lt; show w3.heap.size ≠ W3.heap.size; omega) (.string R.f.a)).other ⟨W3.heap.size, 1, none⟩ (by have := kA.lt; show w3.heap.size ≠ W3.heap.size; omega) (.string R.f.b)).other ⟨W3.heap.size, 2, none⟩ (by have := kA.lt; show w3.heap.size ≠ W3.heap.size; omega) (.int .i64 R.f.x)).other ⟨W3.heap.size, 3, none⟩ (by have := kA.lt; show w3.heap.size ≠ W3.heap.size; omega) (.int .i64 R.f.y)).other ⟨W3.heap.size, 4, none⟩ (by have := kA.lt; show w3.heap.size ≠ W3.heap.size; omega) (.int .i64 R.f.l)
    go_simp
    clear z_0 z_1 z_2 z_3 z_4 y_0 y_1 y_2 y_3 y_4
    generalize World.setCell (World.setCell (World.setCell (World.setCell (World.setCell w5 _ _) _ _) _ _) _ _) _ _ = W5 at *
    clear r_0 r_1 r_2 r_3 r_4 hVB cw1 cw2 cw3 cw4 cw5 hP2 hzF
    have e1 := eq_strs R.f.a R.f.b R.f.a R.f.b
    have e2 := eq_ints R.f.x R.f.y R.f.x R.f.y
    have r_0 := k9.cell 0
    have r_1 := k9.cell 1
    have r_2 := k9.cell 2
    have r_3 := k9.cell 3
    have r_4 := k9.cell 4
    simp at r_0 r_1 r_2 r_3 r_4
    have q_0 := k12.cell 0
    have q_1 := k12.cell 1
    have q_2 := k12.cell 2
    have q_3 := k12.cell 3
    have q_4 := k12.cell 4
    simp at q_0 q_1 q_2 q_3 q_4
    go_wp2_with fail
    go_ret
    exact ⟨rfl, B6⟩
  ·
    have k9 := Blk.below (show Blk (W3.alloc (.cells zC 25)).drew w3.heap.size 25 (flC R.f) from kA.alloc _) b5 (by have := kA.lt; simp; omega)
    have B5 := ((B3.alloc B3.size (.cells zC 25)).drew).trans (b5.mono (by have := B3.size; simp; omega))
    obtain ⟨k12, B6⟩ := five_stores (v0 := .string R.f.a) (v1 := .string R.f.b) (v2 := .int .i64 R.f.x) (v3 := .int .i64 R.f.y) (v4 := .int .i64 R.f.l) kp B5 B3.size
    replace k9 := ((((k9.other ⟨W3.heap.size, 0, none⟩ (by have := kA.lt; show w3.heap.size ≠ W3.heap.size; omega) (.string R.f.a)).other ⟨W3.heap.size, 1, none⟩ (by have := kA.lt; show w3.heap.size ≠ W3.heap.size; omega) (.string R.f.b)).other ⟨W3.heap.size, 2, none⟩ (by have := kA.lt; show w3.heap.size ≠ W3.heap.size; omega) (.int .i64 R.f.x)).other ⟨W3.heap.size, 3, none⟩ (by have := kA.lt; show w3.heap.size ≠ W3.heap.size; omega) (.int .i64 R.f.y)).other ⟨W3.heap.size, 4, none⟩ (by have := kA.lt; show w3.heap.size ≠ W3.heap.size; omega) (.int .i64 R.f.l)
    go_simp
    clear z_0 z_1 z_2 z_3 z_4 y_0 y_1 y_2 y_3 y_4
    generalize World.setCell (World.setCell (World.setCell (World.setCell (World.setCell w5 _ _) _ _) _ _) _ _) _ _ = W5 at *
    clear r_0 r_1 r_2 r_3 r_4 hVB cw1 cw2 cw3 cw4 cw5 hP2 hzF
    have e1 := eq_strs R.f.a R.f.b R.f.a R.f.b
    have e2 := eq_ints R.f.x R.f.y R.f.x R.f.y
    have r_0 := k9.cell 0
    have r_1 := k9.cell 1
    have r_2 := k9.cell 2
    have r_3 := k9.cell 3
    have r_4 := k9.cell 4
    simp at r_0 r_1 r_2 r_3 r_4
    have q_0 := k12.cell 0
    have q_1 := k12.cell 1
    have q_2 := k12.cell 2
    have q_3 := k12.cell 3
    have q_4 := k12.cell 4
    simp at q_0 q_1 q_2 q_3 q_4
    go_wp2_with fail
    go_ret
    exact ⟨rfl, B6⟩
end Go.Proofs.Ythagnnaemcknfaa
