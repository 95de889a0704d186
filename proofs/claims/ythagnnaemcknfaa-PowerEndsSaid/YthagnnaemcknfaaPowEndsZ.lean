/- The walk of the law PowerEnds, joined. -/
import Derived.Test.YthagnnaemcknfaaPowEndsA
import Derived.Test.YthagnnaemcknfaaOpenFlash
import Derived.Test.YthagnnaemcknfaaOpenOps
namespace Go.Proofs.Ythagnnaemcknfaa
open Go.RowKit
set_option linter.unusedVariables false
set_option linter.unusedSimpArgs false

set_option maxRecDepth 100000 in
set_option maxHeartbeats 4000000 in
theorem ends_nil (f : Fl) (hf : f.ok) (cut : Int) (mask : ByteArray) (wm : mask.size ≤ maxLen) (h : bigB f [] mask = false) (w : World) :
    Calls Try.prog 5 #[flV f, .slice none 0 0, .int .i64 cut, .string mask] w fun e w' => e = .returned (.bool true) ∧ Below w.heap.size w w' := by
  obtain ⟨L, hLL⟩ : ∃ L : List Oq, L = [] := ⟨_, rfl⟩
  have hV : OpsV w (.slice none 0 0) [] := .inl ⟨rfl, rfl⟩
  have hL : ∀ x ∈ L, x.ok := by rw [hLL]; simp
  rw [← hLL] at hV h
  have d1 : decide (0 ≤ cut) = false ∨ (decide (0 ≤ cut) = true ∧ decide (cut < 0) = false) := by
    by_cases h : 0 ≤ cut
    · right; exact ⟨by simpa using h, by simp; omega⟩
    · left; simpa using h
  have HLL := Lib.hid hLL
  clear hLL
  have hbn := bigB_no h
  have wa : f.a.size ≤ maxLen := by unfold maxLen; omega
  have wb : f.b.size ≤ maxLen := by unfold maxLen; omega
  have hl : L.length ≤ maxLen := by unfold maxLen; omega
  have hl2 : L.length ≤ 20 := hbn.2.2.2.1
  have hm1 : mask.size ≤ 1000 := by omega
  have hbig := fun W => big_any f wa wb (.slice none 0 0) L (fun x hx => (hL x hx).hd) hl mask wm W
  have hPl := fun W => Play_any f hf (.slice none 0 0) L hL (by omega) cut mask hm1 W
  clear hbn
  rw [h] at hbig
  clear h
  have B0 : Below w.heap.size w (w.alloc (.cells (flC f) 25)) := (Below.refl _ w).alloc (Nat.le_refl _) _
  have kF := Blk.new w 25 (flC f)
  replace hV := hV.below B0
  go_enter Try.func5, Try.ntmps5
  go_wp2_with fail
  refine (hbig _ hV).mono ?_
  rintro e w1 ⟨rfl, b1⟩
  generalize World.alloc w _ = W0 at *
  replace hV := hV.below b1
  replace kF := kF.below b1 kF.lt
  replace B0 := bthen B0 b1
  clear b1 hbig
  go_wp2_with fail
  refine (shown_any _).mono ?_
  rintro e w2 ⟨rfl, b2⟩
  replace hV := hV.below b2
  replace kF := kF.below b2 kF.lt
  replace B0 := bthen B0 b2
  clear b2
  have r_0 := kF.cell 0
  have r_1 := kF.cell 1
  have r_2 := kF.cell 2
  have r_3 := kF.cell 3
  have r_4 := kF.cell 4
  simp at r_0 r_1 r_2 r_3 r_4
  go_wp2_with fail
  refine (hPl _ hV).mono ?_
  rintro e w3 ⟨rfl, b3⟩
  clear r_0 r_1 r_2 r_3 r_4
  have hR : playK cut mask f L 0 = ⟨f, 0, 0⟩ := by rw [HLL.out]; rfl
  rw [hR]
  clear hR hV hPl
  replace kF := (kF.below b3 kF.lt).alloc (.cells (flC f) 25)
  have B3 := (bthen B0 b3).alloc (bthen B0 b3).size (.cells (flC f) 25)
  have kA := Blk.new w3 25 (flC f)
  clear b3 B0
  have e1 := eq_strs f.a f.b f.a f.b
  have e2 := eq_ints f.x f.y f.x f.y
  rcases d1 with d1 | ⟨d1, d1'⟩
  all_goals
    go_wp2_with fail
    generalize World.alloc w3 _ = W3 at *
    (try clear d1 d1')
    go_loop [15, 16, 17] (fun i _ _ => i = .int .i64 0) (fun _ _ _ => 0)
    case atStart => rfl
    case round =>
      subst hrel
      have r_0 := kF.cell 0
      have r_1 := kF.cell 1
      have r_2 := kF.cell 2
      have r_3 := kF.cell 3
      have r_4 := kF.cell 4
      simp at r_0 r_1 r_2 r_3 r_4
      have q_0 := kA.cell 0
      have q_1 := kA.cell 1
      have q_2 := kA.cell 2
      have q_3 := kA.cell 3
      have q_4 := kA.cell 4
      simp at q_0 q_1 q_2 q_3 q_4
      go_wp2_with fail
      go_ret
      exact ⟨rfl, B3⟩

theorem ends_walk (f : Fl) (v : Value) (L : List Oq) (cut : Int) (mask : ByteArray) (wx : (Lit.int .i64 f.x).wf = true) (wy : (Lit.int .i64 f.y).wf = true) (wl : (Lit.int .i64 f.l).wf = true) (wa : f.a.size ≤ maxLen) (wb : f.b.size ≤ maxLen)
    (hL : ∀ x ∈ L, x.ok) (hl : L.length ≤ maxLen) (wc : (Lit.int .i64 cut).wf = true) (wm : mask.size ≤ maxLen) (w : World) (hV : OpsV w v L ∧ (∀ b o n cap, v = .slice (some ⟨b, o, none⟩) n cap → n ≤ cap ∧ cap ≤ maxLen)) :
    Calls Try.prog 5 #[flV f, v, .int .i64 cut, .string mask] w fun e w' => e = .returned (.bool true) ∧ Below w.heap.size w w' := by
  obtain ⟨hV, hcap⟩ := hV
  cases h : bigB f L mask with
  | true => exact ends_out f v L cut mask wa wb hL hl wm h w hV
  | false =>
    obtain ⟨_, h1, h2, _, h3⟩ := bigB_no h
    have hf : f.ok := ⟨wx, wy, wl, h1, h2⟩
    rcases hV with ⟨rfl, rfl⟩ | ⟨b, o, cap, rfl, hA⟩
    · exact ends_nil f hf cut mask wm h w
    · obtain ⟨c1, c2⟩ := hcap _ _ _ _ rfl
      by_cases hc : cut < 0 ∨ (L.length : Int) ≤ cut
      · exact ends_some f hf b o cap L cut hc mask hL wm h w hA
      · obtain ⟨c, rfl⟩ := Int.eq_ofNat_of_zero_le (show 0 ≤ cut by omega)
        exact ends_cut f hf b o cap L c1 c2 c (by omega) mask hL wm h w hA
end Go.Proofs.Ythagnnaemcknfaa
