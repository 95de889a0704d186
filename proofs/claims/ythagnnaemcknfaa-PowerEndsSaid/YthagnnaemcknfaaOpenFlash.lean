/- A flash that came in by value, opened. -/
import Derived.Test.YthagnnaemcknfaaFlashM
import Derived.ProofKit
import Derived.OpenShut
import Derived.ShutString
import Derived.Lib.SmallJoins
namespace Go.Proofs.Ythagnnaemcknfaa
open Go.ChangeShapes Go.WideShapes Go.ChangeAt Go.RowKit
set_option linter.unusedVariables false
set_option linter.unusedSimpArgs false

theorem open_flash {H : Type} {enc : TypeId × Value → H} {W : World} {base : Nat} {sp : Nat → Bool} {held : Bool} {r : Reach} {b0 : Nat} {v : Value} {d : DataW H} {p : List MemPlace}
    (hv : Value.okWide Try.prog W r b0 25 v) (h : DataW.Trod enc Try.prog W base sp held 25 v d p) :
    ∃ f : Fl, v = flV f ∧ (Lit.int .i64 f.x).wf = true ∧ (Lit.int .i64 f.y).wf = true ∧ (Lit.int .i64 f.l).wf = true ∧ f.a.size ≤ maxLen ∧ f.b.size ≤ maxLen := by
  have hcF : Try.prog.cellsOf 25 = 5 := by kernel_rfl
  have hcB : Try.prog.cellsOf 22 = 2 := by kernel_rfl
  have hcE : Try.prog.cellsOf 23 = 2 := by kernel_rfl
  have hcS : Try.prog.cellsOf 9 = 1 := by kernel_rfl
  have hcI : Try.prog.cellsOf 3 = 1 := by kernel_rfl
  obtain ⟨cs, rfl, hsz⟩ := okWide_struct Try.underlying25 hv
  obtain ⟨fuel, hf⟩ := h
  obtain ⟨ys, m, _, _, _, hl, hff⟩ := Go.DataW.trod_struct Try.underlying25 hf
  rw [hcF] at hsz
  obtain ⟨l⟩ := cs
  match l, hsz with
  | [c0, c1, c2, c3, c4], _ =>
    match ys, hl with
    | [y0, y1, y2], _ =>
      have hy0 := hff 0 _ rfl
      have hy1 := hff 1 _ rfl
      have hy2 := hff 2 _ rfl
      simp [hcB, hcE, hcI, Value.cells] at hy0 hy1 hy2
      obtain ⟨zs, m2, _, _, _, hlz, hfz⟩ := Go.DataW.trod_array Try.underlying22 hy0
      obtain ⟨us, m3, _, _, _, hlu, hfu⟩ := Go.DataW.trod_array Try.underlying23 hy1
      match zs, hlz with
      | [z0, z1], _ =>
        match us, hlu with
        | [u0, u1], _ =>
          have hz0 := hfz 0 (by omega)
          have hz1 := hfz 1 (by omega)
          have hu0 := hfu 0 (by omega)
          have hu1 := hfu 1 (by omega)
          simp [hcS] at hz0 hz1
          simp [hcI] at hu0 hu1
          obtain ⟨a, ea, _, sa⟩ := DataW.trod_string Try.underlying9 hz0
          obtain ⟨b, eb, _, sb⟩ := DataW.trod_string Try.underlying9 hz1
          obtain ⟨x, ex, _, sx⟩ := DataW.trod_int Try.underlying3 hu0
          obtain ⟨y, ey, _, sy⟩ := DataW.trod_int Try.underlying3 hu1
          obtain ⟨l, el, _, sl⟩ := DataW.trod_int Try.underlying3 hy2
          simp at ea eb ex ey el
          subst ea eb ex ey el
          exact ⟨⟨a, b, x, y, l⟩, rfl, sx, sy, sl, sa, sb⟩
end Go.Proofs.Ythagnnaemcknfaa
