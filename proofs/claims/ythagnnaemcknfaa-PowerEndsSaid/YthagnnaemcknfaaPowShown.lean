/- dogwatchlaw04.big at any slice; shown. -/
import Derived.Test.YthagnnaemcknfaaPowBig
import Derived.Test.YthagnnaemcknfaaFlashEq
namespace Go.Proofs.Ythagnnaemcknfaa
open Go.RowKit
set_option linter.unusedVariables false
set_option linter.unusedSimpArgs false

theorem big_nil (f : Fl) (hfa : f.a.size ≤ maxLen) (hfb : f.b.size ≤ maxLen) (mask : ByteArray) (hm : mask.size ≤ maxLen) (w : World) :
    Calls Try.prog 6 #[flV f, .slice none 0 0, .string mask] w fun e w' => e = .returned (.bool (bigB f [] mask)) ∧ Below w.heap.size w w' := by
  unfold maxLen at *
  have kF := Blk.new w 25 (flC f)
  have B0 : Below w.heap.size w (w.alloc (.cells (flC f) 25)) := (Below.refl _ w).alloc (Nat.le_refl _) _
  obtain ⟨R, hR⟩ : ∃ R, R = bigB f [] mask := ⟨_, rfl⟩
  rw [← hR]
  have HR := Lib.hid hR
  clear hR
  have hD : bigD [] = false := rfl
  go_enter Try.func6, Try.ntmps6
  go_wp2_with fail
  generalize World.alloc w _ = W at *
  have f0 := kF.cell 0
  have f1 := kF.cell 1
  simp at f0 f1
  go_loop [7] (fun i => i = .int .i64 0) (fun i => (intOf i).toNat)
  case atStart => rfl
  case round =>
    subst hrel
    by_cases h1 : 500 < f.a.size
    · have HN := Lib.hid (show bigB f [] mask = true by unfold bigB; simp [h1])
      clear hD
      go_wp2
      go_ret
      exact ⟨ret_bool (by rw [HR.out, HN.out]), B0⟩
    · by_cases h2 : 500 < f.b.size
      · have HN := Lib.hid (show bigB f [] mask = true by unfold bigB; simp [h2])
        clear hD
        go_wp2
        go_ret
        exact ⟨ret_bool (by rw [HR.out, HN.out]), B0⟩
      · have HN := Lib.hid (show bigB f [] mask = decide (600 < mask.size) by unfold bigB; simp [hD, h1, h2])
        clear hD
        go_wp2
        go_ret
        exact ⟨ret_bool (by rw [HR.out, HN.out, Bool.eq_iff_iff]; simp; omega), B0⟩

theorem big_any (f : Fl) (hfa : f.a.size ≤ maxLen) (hfb : f.b.size ≤ maxLen) (v : Value) (L : List Oq) (hL : ∀ x ∈ L, x.data.size ≤ maxLen) (hl : L.length ≤ maxLen) (mask : ByteArray) (hm : mask.size ≤ maxLen) (w : World) (hA : OpsV w v L) :
    Calls Try.prog 6 #[flV f, v, .string mask] w fun e w' => e = .returned (.bool (bigB f L mask)) ∧ Below w.heap.size w w' := by
  rcases hA with ⟨rfl, rfl⟩ | ⟨b, o, cap, rfl, ha⟩
  · exact big_nil f hfa hfb mask hm w
  · exact big_some f hfa hfb b o cap L hL hl mask hm w ha

abbrev so1 : Oq := ⟨1, 0, 2, ⟨#[0, 0]⟩⟩
abbrev so2 : Oq := ⟨2, 0, 0, ⟨#[]⟩⟩
abbrev so3 : Oq := ⟨3, 0, 0, ⟨#[]⟩⟩
abbrev sf0 : Fl := ⟨⟨#[255, 255, 255, 255]⟩, ⟨#[255, 255, 255, 255]⟩, 0, 0, 3⟩
abbrev sf1 : Fl := ⟨⟨#[255, 255, 240, 255]⟩, ⟨#[255, 255, 255, 255]⟩, 0, 0, 3⟩
abbrev sf2 : Fl := ⟨⟨#[255, 255, 255, 0]⟩, ⟨#[255, 255, 255, 255]⟩, 1, 0, 3⟩
theorem pN : newF 4 3 = sf0 := by kernel_rfl
theorem pP1 : (playK 0 ⟨#[15]⟩ sf0 [so1, so2] 0).f = sf1 ∧ (playK 0 ⟨#[15]⟩ sf0 [so1, so2] 0).n = 0 ∧ (playK 0 ⟨#[15]⟩ sf0 [so1, so2] 0).e = 0 := ⟨by kernel_rfl, by kernel_rfl, by kernel_rfl⟩
theorem pP2 : (playK 1 ⟨#[0, 0, 1]⟩ sf0 [so1, so2] 0).f = sf2 ∧ (playK 1 ⟨#[0, 0, 1]⟩ sf0 [so1, so2] 0).n = 1 ∧ (playK 1 ⟨#[0, 0, 1]⟩ sf0 [so1, so2] 0).e = 0 := ⟨by kernel_rfl, by kernel_rfl, by kernel_rfl⟩
theorem pD : doF sf0 so3 = sf0 ∧ doE sf0 so3 = 1 := ⟨by kernel_rfl, by kernel_rfl⟩
theorem okf0 : sf0.ok := ⟨by decide, by decide, by decide, by decide, by decide⟩
theorem oko1 : so1.ok := ⟨by decide, by decide, by decide, by decide⟩
theorem oko2 : so2.ok := ⟨by decide, by decide, by decide, by decide⟩
theorem oko3 : so3.ok := ⟨by decide, by decide, by decide, by decide⟩
theorem OpsV.two (W : World) (t : TypeId) (o1 o2 : Oq) : OpsV (W.alloc (.cells #[.int .i64 o1.kind, .int .i64 o1.bank, .int .i64 o1.at_, .string o1.data, .int .i64 o2.kind, .int .i64 o2.bank, .int .i64 o2.at_, .string o2.data] t)) (.slice (some ⟨W.heap.size, 0, none⟩) 2 2) [o1, o2] := by
  have k := Blk.new W t #[.int .i64 o1.kind, .int .i64 o1.bank, .int .i64 o1.at_, .string o1.data, .int .i64 o2.kind, .int .i64 o2.bank, .int .i64 o2.at_, .string o2.data]
  refine .inr ⟨W.heap.size, 0, 2, rfl, ?_⟩
  intro i hi
  rw [k.cell, k.cell, k.cell, k.cell]
  match i, hi with
  | 0, _ => exact ⟨rfl, rfl, rfl, rfl⟩
  | 1, _ => exact ⟨rfl, rfl, rfl, rfl⟩
theorem OpsV.one (W : World) (t : TypeId) (o : Oq) : OpsV (W.alloc (.cells #[.int .i64 o.kind, .int .i64 o.bank, .int .i64 o.at_, .string o.data] t)) (.slice (some ⟨W.heap.size, 0, none⟩) 1 1) [o] := by
  have k := Blk.new W t #[.int .i64 o.kind, .int .i64 o.bank, .int .i64 o.at_, .string o.data]
  refine .inr ⟨W.heap.size, 0, 1, rfl, ?_⟩
  intro i hi
  rw [k.cell, k.cell, k.cell, k.cell]
  match i, hi with
  | 0, _ => exact ⟨rfl, rfl, rfl, rfl⟩

abbrev opC (o : Oq) : Array Value := #[.int .i64 o.kind, .int .i64 o.bank, .int .i64 o.at_, .string o.data]
abbrev opC2 (o p : Oq) : Array Value := #[.int .i64 o.kind, .int .i64 o.bank, .int .i64 o.at_, .string o.data, .int .i64 p.kind, .int .i64 p.bank, .int .i64 p.at_, .string p.data]
set_option maxHeartbeats 4000000 in
theorem shown_any (w : World) : Calls Try.prog 7 #[] w fun e w' => e = .returned (.bool true) ∧ Below w.heap.size w w' := by
  have h0 := New_any 4 3
  have h1 := fun v W => Play_any sf0 okf0 v [so1, so2] (by simp; exact ⟨oko1, oko2⟩) (by simp) 0 ⟨#[15]⟩ (by decide) W
  have h2 := fun v W => Play_any sf0 okf0 v [so1, so2] (by simp; exact ⟨oko1, oko2⟩) (by simp) 1 ⟨#[0, 0, 1]⟩ (by decide) W
  have h3 := Do_any sf0 okf0 so3 oko3
  rw [pN] at h0
  simp only [pP1.1, pP1.2.1, pP1.2.2] at h1
  simp only [pP2.1, pP2.2.1, pP2.2.2] at h2
  rw [pD.1, pD.2] at h3
  go_enter Try.func7, Try.ntmps7
  go_wp2_with (with_reducible refine (h0 _).mono ?_)
  rintro e w1 ⟨rfl, b1⟩
  have hV := OpsV.two ((w1.alloc (.cells (flC sf0) 25)).alloc (.cells (opC so1) 27)) 27 so1 so2
  have k1 := ((Blk.new w1 25 (flC sf0)).alloc (.cells (opC so1) 27)).alloc (.cells (opC2 so1 so2) 27)
  have k2 := (Blk.new (w1.alloc (.cells (flC sf0) 25)) 27 (opC so1)).alloc (.cells (opC2 so1 so2) 27)
  have B1 := ((b1.alloc b1.size (.cells (flC sf0) 25)).alloc (by have := b1.size; simp; omega) (.cells (opC so1) 27)).alloc (by have := b1.size; simp; omega) (.cells (opC2 so1 so2) 27)
  simp only [World.size_alloc] at hV k2
  go_wp2_with fail
  refine (h1 _ _ hV).mono ?_
  rintro e w2 ⟨rfl, b2⟩
  generalize World.alloc (World.alloc (World.alloc w1 _) _) _ = W1 at *
  clear hV
  have hV := OpsV.two (w2.alloc (.cells (flC sf1) 25)) 27 so1 so2
  have k1' := ((k1.below b2 k1.lt).alloc (.cells (flC sf1) 25))
  have k2' := ((k2.below b2 k2.lt).alloc (.cells (flC sf1) 25))
  have k3 := (Blk.new w2 25 (flC sf1)).alloc (.cells (opC2 so1 so2) 27)
  have B2 := ((bthen B1 b2).alloc (bthen B1 b2).size (.cells (flC sf1) 25)).alloc (by have := (bthen B1 b2).size; simp; omega) (.cells (opC2 so1 so2) 27)
  simp only [World.size_alloc] at hV
  have r_0 := k1'.cell 0
  have r_1 := k1'.cell 1
  have r_2 := k1'.cell 2
  have r_3 := k1'.cell 3
  have r_4 := k1'.cell 4
  simp at r_0 r_1 r_2 r_3 r_4
  have q_0 := k2'.cell 0
  have q_1 := k2'.cell 1
  have q_2 := k2'.cell 2
  have q_3 := k2'.cell 3
  simp at q_0 q_1 q_2 q_3
  go_wp2_with fail
  refine (h2 _ _ hV).mono ?_
  rintro e w3 ⟨rfl, b3⟩
  replace k1 := k1'.alloc (.cells (opC2 so1 so2) 27)
  generalize World.alloc (World.alloc w2 _) _ = W2 at *
  clear hV r_0 r_1 r_2 r_3 r_4 q_0 q_1 q_2 q_3 k1' k2' k2
  replace k1 := (k1.below b3 k1.lt).alloc (.cells (flC sf2) 25)
  replace k3 := (k3.below b3 k3.lt).alloc (.cells (flC sf2) 25)
  have k4 := Blk.new w3 25 (flC sf2)
  have B3 := (bthen B2 b3).alloc (bthen B2 b3).size (.cells (flC sf2) 25)
  have r_0 := k1.cell 0
  have r_1 := k1.cell 1
  have r_2 := k1.cell 2
  have r_3 := k1.cell 3
  have r_4 := k1.cell 4
  simp at r_0 r_1 r_2 r_3 r_4
  go_wp2_with fail
  refine (h3 _).mono ?_
  rintro e w4 ⟨rfl, b4⟩
  clear r_0 r_1 r_2 r_3 r_4
  generalize World.alloc w3 _ = W3 at *
  replace k1 := (k1.below b4 k1.lt).alloc (.cells (flC sf0) 25)
  replace k3 := (k3.below b4 k3.lt).alloc (.cells (flC sf0) 25)
  replace k4 := (k4.below b4 k4.lt).alloc (.cells (flC sf0) 25)
  have k5 := Blk.new w4 25 (flC sf0)
  have B4 := (bthen B3 b4).alloc (bthen B3 b4).size (.cells (flC sf0) 25)
  have r_0 := k1.cell 0
  have r_1 := k1.cell 1
  have r_2 := k1.cell 2
  have r_3 := k1.cell 3
  have r_4 := k1.cell 4
  simp at r_0 r_1 r_2 r_3 r_4
  have s_0 := k3.cell 0
  have s_1 := k3.cell 1
  have s_2 := k3.cell 2
  have s_3 := k3.cell 3
  have s_4 := k3.cell 4
  simp at s_0 s_1 s_2 s_3 s_4
  have q_0 := k4.cell 0
  have q_1 := k4.cell 1
  have q_2 := k4.cell 2
  have q_3 := k4.cell 3
  have q_4 := k4.cell 4
  simp at q_0 q_1 q_2 q_3 q_4
  have t_0 := k5.cell 0
  have t_1 := k5.cell 1
  have t_2 := k5.cell 2
  have t_3 := k5.cell 3
  have t_4 := k5.cell 4
  simp at t_0 t_1 t_2 t_3 t_4
  have e1 := eq_strs sf0.a sf0.b sf0.a sf0.b
  have e2 := eq_ints sf0.x sf0.y sf0.x sf0.y
  have g1 : (sf0.a.toList == sf0.a.toList) = true := beq_self_eq_true _
  have g2 : (sf1.a.toList == [255, 255, 240, 255]) = true := by rw [toList_data]; rfl
  have g3 : (sf2.a.toList == [255, 255, 255, 0]) = true := by rw [toList_data]; rfl
  go_wp2_with fail
  go_ret
  exact ⟨rfl, B4⟩
end Go.Proofs.Ythagnnaemcknfaa
