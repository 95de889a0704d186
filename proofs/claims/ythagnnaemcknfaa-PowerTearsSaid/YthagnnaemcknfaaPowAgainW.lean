/- The walk of the law PowerAgain. -/
import Derived.Test.YthagnnaemcknfaaPowAgain
import Derived.Test.YthagnnaemcknfaaOpenFlash
namespace Go.Proofs.Ythagnnaemcknfaa
open Go.RowKit
set_option linter.unusedVariables false
set_option linter.unusedSimpArgs false

theorem tear_ok {f : Fl} (hf : f.ok) (o : Oq) (mask : ByteArray) : (tearF f o mask).ok := by
  have h0 := tear_size f o mask 0
  have h1 := tear_size f o mask 1
  have hd := doF_ok hf o
  have ha := hf.ha
  have hb := hf.hb
  unfold tearF at *
  split at h0
  · rename_i h
    rw [if_pos h] at h1 ⊢
    have e0 : (((doF f o).put o.bank (tearS f o mask)).a).size ≤ 500 := by
      have : (((doF f o).put o.bank (tearS f o mask)).bank 0) = ((doF f o).put o.bank (tearS f o mask)).a := rfl
      rw [← this, h0]; exact ha
    have e1 : (((doF f o).put o.bank (tearS f o mask)).b).size ≤ 500 := by
      have : (((doF f o).put o.bank (tearS f o mask)).bank 1) = ((doF f o).put o.bank (tearS f o mask)).b := rfl
      rw [← this, h1]; exact hb
    refine ⟨?_, ?_, ?_, e0, e1⟩ <;> unfold Fl.put <;> split <;> first | exact hd.hx | exact hd.hy | exact hd.hl
  · rename_i h
    rw [if_neg h]
    exact hf

theorem eq_strs_top (s t u v : ByteArray) (w : World) : (Op.equalIn 10000 22 (.agg #[.string s, .string t]) (.agg #[.string u, .string v])).run Try.prog w = .ok (s.toList == u.toList && t.toList == v.toList) w := by
  unfold Op.equalIn
  simp [go_sem, Try.underlying22]
  rw [show List.range' 0 2 = [0, 1] from rfl]
  have h9 : ∀ (a b : ByteArray) (w : World), (Op.equalIn 9999 9 (.string a) (.string b)).run Try.prog w = .ok (a.toList == b.toList) w := fun a b w => by
    unfold Op.equalIn
    simp [go_sem, Try.underlying9, beq_ba]
  simp [go_sem, List.forIn_cons, List.forIn_nil, Try.isAgg9, h9]
  by_cases e1 : s.toList = u.toList <;> by_cases e2 : t.toList = v.toList <;> simp [e1, e2, go_sem, h9]

set_option maxHeartbeats 4000000 in
theorem again_out (f : Fl) (o : Oq) (ho : o.ok) (mask : ByteArray) (wa : f.a.size ≤ maxLen) (wb : f.b.size ≤ maxLen) (wm : mask.size ≤ maxLen) (h : bigB f [o] mask = true) (w : World) :
    Calls Try.prog 4 #[flV f, oqV o, .string mask] w fun e w' => e = .returned (.bool true) ∧ Below w.heap.size w w' := by
  have hbig := fun v W => big_any f wa wb v [o] (by simp; exact ho.hd) (by simp [maxLen]) mask wm W
  have hB0 : Below w.heap.size w (((w.alloc (.cells (flC f) 25)).alloc (.cells (opC o) 27)).alloc (.cells (opC o) 27)) := (((Below.refl _ w).alloc (Nat.le_refl _) _).alloc (by simp) _).alloc (by simp; omega) _
  have hV := OpsV.one ((w.alloc (.cells (flC f) 25)).alloc (.cells (opC o) 27)) 27 o
  have kF := ((Blk.new w 25 (flC f)).alloc (.cells (opC o) 27)).alloc (.cells (opC o) 27)
  have kO := (Blk.new (w.alloc (.cells (flC f) 25)) 27 (opC o)).alloc (.cells (opC o) 27)
  simp only [World.size_alloc] at hV kO
  go_enter Try.func4, Try.ntmps4
  go_wp2_with fail
  refine (hbig _ _ hV).mono ?_
  rintro e w1 ⟨rfl, b1⟩
  generalize World.alloc (World.alloc (World.alloc w _) _) _ = W0 at *
  replace kF := kF.below b1 kF.lt
  replace kO := kO.below b1 kO.lt
  have B1 := bthen hB0 b1
  clear hV hB0 b1 hbig
  rw [h]
  clear h
  go_wp2_with (with_reducible refine (shown_any _).mono ?_; rintro e w2 ⟨rfl, b2⟩)
  go_ret
  exact ⟨rfl, bthen B1 b2⟩

set_option maxHeartbeats 4000000 in
theorem again_in (f : Fl) (hf : f.ok) (o : Oq) (ho : o.ok) (mask : ByteArray) (wm : mask.size ≤ maxLen) (h : bigB f [o] mask = false) (w : World) :
    Calls Try.prog 4 #[flV f, oqV o, .string mask] w fun e w' => e = .returned (.bool true) ∧ Below w.heap.size w w' := by
  have hbn := bigB_no h
  have hm1 : mask.size ≤ 1000 := by omega
  have wa : f.a.size ≤ maxLen := by unfold maxLen; omega
  have wb : f.b.size ≤ maxLen := by unfold maxLen; omega
  clear hbn
  have hT := Tear_any f hf o ho mask hm1
  have hD := Do_any f hf o ho
  have hD2 := Do_any (tearF f o mask) (tear_ok hf o mask) o ho
  have hplain := fun h1 h2 => again_plain f o mask h1 h2
  generalize tearF f o mask = A at *
  generalize doF A o = B' at *
  generalize doE A o = G at *
  generalize doF f o = C at *
  generalize doE f o = E at *
  have hbig := fun v W => big_any f wa wb v [o] (by simp; exact ho.hd) (by simp [maxLen]) mask wm W
  have hB0 : Below w.heap.size w (((w.alloc (.cells (flC f) 25)).alloc (.cells (opC o) 27)).alloc (.cells (opC o) 27)) := (((Below.refl _ w).alloc (Nat.le_refl _) _).alloc (by simp) _).alloc (by simp; omega) _
  have hV := OpsV.one ((w.alloc (.cells (flC f) 25)).alloc (.cells (opC o) 27)) 27 o
  have kF := ((Blk.new w 25 (flC f)).alloc (.cells (opC o) 27)).alloc (.cells (opC o) 27)
  have kO := (Blk.new (w.alloc (.cells (flC f) 25)) 27 (opC o)).alloc (.cells (opC o) 27)
  simp only [World.size_alloc] at hV kO
  go_enter Try.func4, Try.ntmps4
  go_wp2_with fail
  refine (hbig _ _ hV).mono ?_
  rintro e w1 ⟨rfl, b1⟩
  generalize World.alloc (World.alloc (World.alloc w _) _) _ = W0 at *
  replace kF := kF.below b1 kF.lt
  replace kO := kO.below b1 kO.lt
  have B1 := bthen hB0 b1
  clear hV hB0 b1 hbig
  rw [h]
  clear h
  go_wp2_with fail
  refine (shown_any _).mono ?_
  rintro e w2 ⟨rfl, b2⟩
  replace kF := kF.below b2 kF.lt
  replace kO := kO.below b2 kO.lt
  have B2 := bthen B1 b2
  clear b2 B1
  have r_0 := kF.cell 0
  have r_1 := kF.cell 1
  have r_2 := kF.cell 2
  have r_3 := kF.cell 3
  have r_4 := kF.cell 4
  simp at r_0 r_1 r_2 r_3 r_4
  have q_0 := kO.cell 0
  have q_1 := kO.cell 1
  have q_2 := kO.cell 2
  have q_3 := kO.cell 3
  simp at q_0 q_1 q_2 q_3
  go_wp2_with fail
  refine (hT _).mono ?_
  rintro e w3 ⟨rfl, b3⟩
  clear r_0 r_1 r_2 r_3 r_4 q_0 q_1 q_2 q_3
  replace kF := (kF.below b3 kF.lt).alloc (.cells (flC A) 25)
  replace kO := (kO.below b3 kO.lt).alloc (.cells (flC A) 25)
  have kA := Blk.new w3 25 (flC A)
  have B3 := (bthen B2 b3).alloc (bthen B2 b3).size (.cells (flC A) 25)
  clear b3 B2
  have s_0 := kA.cell 0
  have s_1 := kA.cell 1
  have s_2 := kA.cell 2
  have s_3 := kA.cell 3
  have s_4 := kA.cell 4
  simp at s_0 s_1 s_2 s_3 s_4
  have q_0 := kO.cell 0
  have q_1 := kO.cell 1
  have q_2 := kO.cell 2
  have q_3 := kO.cell 3
  simp at q_0 q_1 q_2 q_3
  go_wp2_with fail
  refine (hD2 _).mono ?_
  rintro e w4 ⟨rfl, b4⟩
  clear s_0 s_1 s_2 s_3 s_4 q_0 q_1 q_2 q_3
  generalize World.alloc w3 _ = W3 at *
  replace kF := (kF.below b4 kF.lt).alloc (.cells (flC B') 25)
  replace kO := (kO.below b4 kO.lt).alloc (.cells (flC B') 25)
  have kB := Blk.new w4 25 (flC B')
  have B4 := (bthen B3 b4).alloc (bthen B3 b4).size (.cells (flC B') 25)
  clear b4 B3 kA
  have r_0 := kF.cell 0
  have r_1 := kF.cell 1
  have r_2 := kF.cell 2
  have r_3 := kF.cell 3
  have r_4 := kF.cell 4
  simp at r_0 r_1 r_2 r_3 r_4
  have q_0 := kO.cell 0
  have q_1 := kO.cell 1
  have q_2 := kO.cell 2
  have q_3 := kO.cell 3
  simp at q_0 q_1 q_2 q_3
  go_wp2_with fail
  refine (hD _).mono ?_
  rintro e w5 ⟨rfl, b5⟩
  clear r_0 r_1 r_2 r_3 r_4 q_0 q_1 q_2 q_3
  generalize World.alloc w4 _ = W4 at *
  replace kB := (kB.below b5 kB.lt).alloc (.cells (flC C) 25)
  have kC := Blk.new w5 25 (flC C)
  have B5 := (bthen B4 b5).alloc (bthen B4 b5).size (.cells (flC C) 25)
  clear b5 B4 kF kO
  by_cases hE : E = 0
  · subst hE
    by_cases hG : G = 0
    · subst hG
      obtain ⟨p1, p2⟩ := hplain rfl rfl
      have e1 := eq_strs_top B'.a B'.b C.a C.b
      have e2 : (B'.a.toList == C.a.toList) = true := by rw [p1]; exact beq_self_eq_true _
      have e3 : (B'.b.toList == C.b.toList) = true := by rw [p2]; exact beq_self_eq_true _
      clear p1 p2 hplain
      have r_0 := kB.cell 0
      have r_1 := kB.cell 1
      have r_2 := kB.cell 2
      have r_3 := kB.cell 3
      have r_4 := kB.cell 4
      simp at r_0 r_1 r_2 r_3 r_4
      have q_0 := kC.cell 0
      have q_1 := kC.cell 1
      have q_2 := kC.cell 2
      have q_3 := kC.cell 3
      have q_4 := kC.cell 4
      simp at q_0 q_1 q_2 q_3 q_4
      go_wp2_with fail
      go_ret
      exact ⟨rfl, B5⟩
    · have n1 : (G != 0) = true := by simpa using hG
      have n2 : (G == 0) = false := by simpa using hG
      clear hG hplain
      go_wp2_with fail
      go_ret
      exact ⟨rfl, B5⟩
  · have n1 : (E != 0) = true := by simpa using hE
    have n2 : (E == 0) = false := by simpa using hE
    clear hE hplain
    go_wp2_with fail
    go_ret
    exact ⟨rfl, B5⟩

theorem again_walk (f : Fl) (K k t : Int) (d mask : ByteArray) (wx : (Lit.int .i64 f.x).wf = true) (wy : (Lit.int .i64 f.y).wf = true) (wl : (Lit.int .i64 f.l).wf = true) (wa : f.a.size ≤ maxLen) (wb : f.b.size ≤ maxLen)
    (wK : (Lit.int .i64 K).wf = true) (wk : (Lit.int .i64 k).wf = true) (wt : (Lit.int .i64 t).wf = true) (wd : d.size ≤ maxLen) (wm : mask.size ≤ maxLen) (w : World) :
    Calls Try.prog 4 #[flV f, oqV ⟨K, k, t, d⟩, .string mask] w fun e w' => e = .returned (.bool true) ∧ Below w.heap.size w w' := by
  cases h : bigB f [⟨K, k, t, d⟩] mask with
  | true => exact again_out f _ ⟨wK, wk, wt, wd⟩ mask wa wb wm h w
  | false =>
    obtain ⟨_, h1, h2, _⟩ := bigB_no h
    exact again_in f ⟨wx, wy, wl, h1, h2⟩ _ ⟨wK, wk, wt, wd⟩ mask wm h w
end Go.Proofs.Ythagnnaemcknfaa
