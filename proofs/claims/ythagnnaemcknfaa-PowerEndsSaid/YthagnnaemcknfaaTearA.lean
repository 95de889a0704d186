/- power.Tear: its contract. -/
import Derived.Test.YthagnnaemcknfaaTearW
namespace Go.Proofs.Ythagnnaemcknfaa
open Go.RowKit
set_option linter.unusedVariables false
set_option linter.unusedSimpArgs false

set_option maxHeartbeats 1000000 in
theorem Tear_bad (f : Fl) (o : Oq) (mask : ByteArray) (E : Int) (hE : (E != 0) = true)
    (hDo : ∀ W, Calls Try.prog 10 #[flV f, oqV o] W fun e w' => e = .returned (.tuple #[flV f, .int .i64 E]) ∧ Below W.heap.size W w') (w : World) :
    Calls Try.prog 8 #[flV f, oqV o, .string mask] w fun e w' => e = .returned (.tuple #[flV f, .int .i64 E]) ∧ Below w.heap.size w w' := by
  obtain ⟨a, b, x, y, l⟩ := f
  obtain ⟨K, k, t, d⟩ := o
  have kF := ((Blk.new w 25 #[.string a, .string b, .int .i64 x, .int .i64 y, .int .i64 l]).alloc (.cells #[.int .i64 K, .int .i64 k, .int .i64 t, .string d] 27)).alloc (.cells #[.string ⟨#[]⟩, .string ⟨#[]⟩, .int .i64 0, .int .i64 0, .int .i64 0] 25)
  have kZ := Blk.new ((w.alloc (.cells #[.string a, .string b, .int .i64 x, .int .i64 y, .int .i64 l] 25)).alloc (.cells #[.int .i64 K, .int .i64 k, .int .i64 t, .string d] 27)) 25 #[.string ⟨#[]⟩, .string ⟨#[]⟩, .int .i64 0, .int .i64 0, .int .i64 0]
  have B1 : Below w.heap.size w (((w.alloc (.cells #[.string a, .string b, .int .i64 x, .int .i64 y, .int .i64 l] 25)).alloc (.cells #[.int .i64 K, .int .i64 k, .int .i64 t, .string d] 27)).alloc (.cells #[.string ⟨#[]⟩, .string ⟨#[]⟩, .int .i64 0, .int .i64 0, .int .i64 0] 25)) :=
    (((Below.refl _ w).alloc (Nat.le_refl _) _).alloc (by simp) _).alloc (by simp; omega) _
  rw [World.size_alloc, World.size_alloc] at kZ
  go_enter Try.func8, Try.ntmps8
  go_wp2_with (with_reducible refine (hDo _).mono ?_)
  rintro e w1 ⟨rfl, b1⟩
  generalize World.alloc (World.alloc (World.alloc w _) _) _ = W1 at *
  have kF2 := (kF.below b1 kF.lt).alloc (.cells #[.string a, .string b, .int .i64 x, .int .i64 y, .int .i64 l] 25)
  have kZ2 := (kZ.below b1 kZ.lt).alloc (.cells #[.string a, .string b, .int .i64 x, .int .i64 y, .int .i64 l] 25)
  have B2 := (bthen B1 b1).alloc (bthen B1 b1).size (.cells #[.string a, .string b, .int .i64 x, .int .i64 y, .int .i64 l] 25)
  clear kF kZ B1 b1
  have r0 := kZ2.cell 0
  have r1 := kZ2.cell 1
  have r2 := kZ2.cell 2
  have r3 := kZ2.cell 3
  have r4 := kZ2.cell 4
  have f0 := kZ2.frozen 0
  have f1 := kZ2.frozen 1
  have f2 := kZ2.frozen 2
  have f3 := kZ2.frozen 3
  have f4 := kZ2.frozen 4
  have q0 := kF2.cell 0
  have q1 := kF2.cell 1
  have q2 := kF2.cell 2
  have q3 := kF2.cell 3
  have q4 := kF2.cell 4
  simp at r0 r1 r2 r3 r4 q0 q1 q2 q3 q4
  go_wp2
  obtain ⟨g0, B6⟩ := five_stores (v0 := .string a) (v1 := .string b) (v2 := .int .i64 x) (v3 := .int .i64 y) (v4 := .int .i64 l) kZ2 B2 (by omega)
  have q0 := g0.cell 0
  have q1 := g0.cell 1
  have q2 := g0.cell 2
  have q3 := g0.cell 3
  have q4 := g0.cell 4
  simp only [List.getElem?_toArray, List.getElem?_cons_zero, List.getElem?_cons_succ] at q0 q1 q2 q3 q4
  generalize World.setCell (World.setCell (World.setCell (World.setCell (World.setCell _ _ _) _ _) _ _) _ _) _ _ = W6 at *
  exact bodyPost_ret (v := .tuple #[.agg #[.string a, .string b, .int .i64 x, .int .i64 y, .int .i64 l], .int .i64 E]) (by simp [results, Try.results8, go_sem, q0, q1, q2, q3, q4]) rfl ⟨rfl, B6⟩

theorem erE_of {f : Fl} {k : Int} (h : erE f k = 0) : (k = 0 ∨ k = 1) ∧ f.worn k < f.l := by
  unfold erE at h
  split at h
  · cases h
  · split at h
    · cases h
    · omega
theorem doE_of {f : Fl} {o : Oq} (h : doE f o = 0) : (o.kind = 1 ∧ pgE f o.bank o.at_ o.data = 0) ∨ (o.kind = 2 ∧ erE f o.bank = 0) := by
  unfold doE at h
  split at h
  · rename_i h1; exact .inl ⟨h1, h⟩
  · split at h
    · rename_i h1; exact .inr ⟨h1, h⟩
    · cases h
theorem midB_size (s u m : ByteArray) (i j : Nat) (h1 : i ≤ j) (h2 : j ≤ s.size) : (midB s u m i j).size = s.size := by
  unfold midB
  rw [ByteArray.size_append, ByteArray.size_append, tornB_size, ByteArray.size_extract, ByteArray.size_extract, ByteArray.size_extract]
  omega

theorem Tear_any (f : Fl) (hf : f.ok) (o : Oq) (ho : o.ok) (mask : ByteArray) (hm : mask.size ≤ 1000) (w : World) :
    Calls Try.prog 8 #[flV f, oqV o, .string mask] w fun e w' => e = .returned (.tuple #[flV (tearF f o mask), .int .i64 (doE f o)]) ∧ Below w.heap.size w w' := by
  have hDo := Do_any f hf o ho
  by_cases hE : doE f o = 0
  · have hF : tearF f o mask = (doF f o).put o.bank (tearS f o mask) := if_pos hE
    rw [hF]
    obtain ⟨a, b, x, y, l⟩ := f
    obtain ⟨K, k, t, d⟩ := o
    have hd := ho.hd
    have ha := hf.ha
    have hb := hf.hb
    rcases doE_of hE with ⟨h1, h2⟩ | ⟨h1, h2⟩
    · have h1' : K = 1 := h1
      subst h1'
      obtain ⟨hk, ht, hsz, _⟩ := pgE_of h2
      obtain ⟨t, rfl⟩ := Int.eq_ofNat_of_zero_le (show 0 ≤ t from ht)
      have eF : doF ⟨a, b, x, y, l⟩ ⟨1, k, (t : Int), d⟩ = Fl.put ⟨a, b, x, y, l⟩ k (progB (Fl.bank ⟨a, b, x, y, l⟩ k) t d) := by
        unfold doF; rw [if_pos rfl]; exact if_pos h2
      have eS : tearS ⟨a, b, x, y, l⟩ ⟨1, k, (t : Int), d⟩ mask = midB (Fl.bank ⟨a, b, x, y, l⟩ k) ((doF ⟨a, b, x, y, l⟩ ⟨1, k, (t : Int), d⟩).bank k) mask t (t + d.size) := if_neg (show ¬ ((1 : Int) = 2) by decide)
      rw [eS, hE]
      rw [hE] at hDo
      rw [eF, Fl.put_bank, Fl.put_put]
      rw [eF] at hDo
      have hsz2 : t + d.size ≤ (Fl.bank ⟨a, b, x, y, l⟩ k).size := by simp only at hsz; omega
      have hpz := progB_size (Fl.bank ⟨a, b, x, y, l⟩ k) d t hsz2
      have hkk : k = 0 ∨ k = 1 := hk
      rcases hkk with rfl | rfl
      · exact Tear_one0 a b d mask x y l _ b _ x y l t rfl (Nat.le_trans hsz2 (Nat.le_of_eq hpz.symm)) ha hm hsz2 hDo w
      · exact Tear_one1 a b d mask x y l a _ _ x y l t rfl (Nat.le_trans hsz2 (Nat.le_of_eq hpz.symm)) hb hm hsz2 hDo w
    · have h1' : K = 2 := h1
      subst h1'
      obtain ⟨hk, hw⟩ := erE_of h2
      have eF : doF ⟨a, b, x, y, l⟩ ⟨2, k, t, d⟩ = (Fl.put ⟨a, b, x, y, l⟩ k (fullB (Fl.bank ⟨a, b, x, y, l⟩ k).size)).wear k (Fl.worn ⟨a, b, x, y, l⟩ k + 1) := by
        unfold doF; rw [if_neg (show ¬ ((2 : Int) = 1) by decide), if_pos rfl]; exact if_pos h2
      have eS : tearS ⟨a, b, x, y, l⟩ ⟨2, k, t, d⟩ mask = midB ((doF ⟨a, b, x, y, l⟩ ⟨2, k, t, d⟩).bank k) (Fl.bank ⟨a, b, x, y, l⟩ k) (invB mask (Fl.bank ⟨a, b, x, y, l⟩ k).size) 0 (Fl.bank ⟨a, b, x, y, l⟩ k).size := if_pos rfl
      rw [eS, hE]
      rw [hE] at hDo
      rw [eF]
      rw [eF] at hDo
      have hkk : k = 0 ∨ k = 1 := hk
      rcases hkk with rfl | rfl
      · exact Tear_two0 a b d mask x y l (fullB a.size) b _ (x + 1) y l t rfl (by rw [fullB_size]; omega) (by rw [fullB_size]; exact ha) hm hd hDo w
      · exact Tear_two1 a b d mask x y l a (fullB b.size) _ x (y + 1) l t rfl (by rw [fullB_size]; omega) (by rw [fullB_size]; exact hb) hm hd hDo w
  · have hF : tearF f o mask = f := if_neg hE
    rw [hF]
    rw [doF_bad hE] at hDo
    exact Tear_bad f o mask _ (by simpa using hE) hDo w
end Go.Proofs.Ythagnnaemcknfaa
