/- The walk of the law PowerTears, joined. -/
import Derived.Test.YthagnnaemcknfaaPowTearsW
import Derived.Test.YthagnnaemcknfaaOpenFlash
namespace Go.Proofs.Ythagnnaemcknfaa
open Go.RowKit
set_option linter.unusedVariables false
set_option linter.unusedSimpArgs false

theorem tears_walk (f : Fl) (K k t : Int) (d mask : ByteArray) (wx : (Lit.int .i64 f.x).wf = true) (wy : (Lit.int .i64 f.y).wf = true) (wl : (Lit.int .i64 f.l).wf = true) (wa : f.a.size ≤ maxLen) (wb : f.b.size ≤ maxLen)
    (wK : (Lit.int .i64 K).wf = true) (wk : (Lit.int .i64 k).wf = true) (wt : (Lit.int .i64 t).wf = true) (wd : d.size ≤ maxLen) (wm : mask.size ≤ maxLen) (w : World) :
    Calls Try.prog 3 #[flV f, oqV ⟨K, k, t, d⟩, .string mask] w fun e w' => e = .returned (.bool true) ∧ Below w.heap.size w w' := by
  have ho : Oq.ok ⟨K, k, t, d⟩ := ⟨wK, wk, wt, wd⟩
  cases h : bigB f [⟨K, k, t, d⟩] mask with
  | true => exact tears_out f _ ho mask wa wb wm h w
  | false =>
    obtain ⟨_, h1, h2, _, h3⟩ := bigB_no h
    have hf : f.ok := ⟨wx, wy, wl, h1, h2⟩
    have hT := Tear_any f hf ⟨K, k, t, d⟩ ho mask (by omega)
    by_cases hE : doE f ⟨K, k, t, d⟩ = 0
    · rw [hE] at hT
      rcases doE_of hE with ⟨g, _⟩ | ⟨g, _⟩
      · have g' : K = 1 := g
        subst g'
        obtain ⟨hk, ht, hs, eT, hz, p1, p2⟩ := tears_one mask g hE
        obtain ⟨t, rfl⟩ := Int.eq_ofNat_of_zero_le (show 0 ≤ t from ht)
        rw [eT] at hT
        obtain ⟨a, b, x, y, l⟩ := f
        have hk' : k = 0 ∨ k = 1 := hk
        rcases hk' with rfl | rfl
        · exact tears_one0 a b d mask _ x y l x t ho wm h hz (by have : ((t : Int) + (d.size : Int)) ≤ ((a.size : Nat) : Int) := hs; omega) p1 p2 hT w
        · exact tears_one1 a b d mask _ x y l y t ho wm h hz (by have : ((t : Int) + (d.size : Int)) ≤ ((b.size : Nat) : Int) := hs; omega) p1 p2 hT w
      · have g' : K = 2 := g
        subst g'
        obtain ⟨hk, eT, hz, p1⟩ := tears_two mask g hE
        rw [eT] at hT
        obtain ⟨a, b, x, y, l⟩ := f
        have hk' : k = 0 ∨ k = 1 := hk
        rcases hk' with rfl | rfl
        · exact tears_two0 a b d mask _ x y l (x + 1) t ho wm h hz p1 hT w
        · exact tears_two1 a b d mask _ x y l (y + 1) t ho wm h hz p1 hT w
    · have eT : tearF f ⟨K, k, t, d⟩ mask = f := if_neg hE
      rw [eT] at hT
      exact tears_bad f _ ho mask wm h _ (by simpa using hE) hT w
end Go.Proofs.Ythagnnaemcknfaa
