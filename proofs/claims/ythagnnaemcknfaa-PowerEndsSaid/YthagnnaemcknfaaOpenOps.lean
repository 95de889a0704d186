/- A slice of ops that came in, opened. -/
import Derived.Test.YthagnnaemcknfaaPowShown
import Derived.ProofKit
import Derived.OpenShut
import Derived.ShutString
import Derived.Lib.SmallJoins
import Derived.Deep.Slices
namespace Go.Proofs.Ythagnnaemcknfaa
open Go.ChangeShapes Go.WideShapes Go.ChangeAt Go.RowKit
set_option linter.unusedVariables false
set_option linter.unusedSimpArgs false

theorem open_op {H : Type} {enc : TypeId × Value → H} {W : World} {base : Nat} {sp : Nat → Bool} {held : Bool} {n : Nat} {cs : List Value} {x : DataW H × List MemPlace} (hl : cs.length = 4)
    (h : DataW.trod enc Try.prog W base sp held n 27 cs = some x) : ∃ o : Oq, cs = (opC o).toList ∧ o.ok := by
  have hcS : Try.prog.cellsOf 9 = 1 := by kernel_rfl
  have hcI : Try.prog.cellsOf 3 = 1 := by kernel_rfl
  obtain ⟨ys, m, _, _, _, hly, hff⟩ := Go.DataW.trod_struct Try.underlying27 h
  match cs, hl with
  | [c0, c1, c2, c3], _ =>
    match ys, hly with
    | [y0, y1, y2, y3], _ =>
      have hy0 := hff 0 _ rfl
      have hy1 := hff 1 _ rfl
      have hy2 := hff 2 _ rfl
      have hy3 := hff 3 _ rfl
      simp [hcS, hcI] at hy0 hy1 hy2 hy3
      obtain ⟨a, ea, _, sa⟩ := DataW.trod_int Try.underlying3 hy0
      obtain ⟨b, eb, _, sb⟩ := DataW.trod_int Try.underlying3 hy1
      obtain ⟨c, ec, _, sc⟩ := DataW.trod_int Try.underlying3 hy2
      obtain ⟨d, ed, _, sd⟩ := DataW.trod_string Try.underlying9 hy3
      simp at ea eb ec ed
      subst ea eb ec ed
      exact ⟨⟨a, b, c, d⟩, rfl, ⟨sa, sb, sc, sd⟩⟩

theorem open_ops {H : Type} {enc : TypeId × Value → H} {W : World} {base : Nat} {sp : Nat → Bool} {held : Bool} {r : Reach} {b0 : Nat} {v : Value} {d : DataW H} {p : List MemPlace}
    (hv : Value.okWide Try.prog W r b0 29 v) (h : DataW.Trod enc Try.prog W base sp held 29 v d p) : ∃ L : List Oq, (OpsV W v L ∧ (∀ b o n cap, v = .slice (some ⟨b, o, none⟩) n cap → n ≤ cap ∧ cap ≤ maxLen)) ∧ (∀ x ∈ L, x.ok) ∧ L.length ≤ maxLen := by
  have hc : Try.prog.cellsOf 27 = 4 := by kernel_rfl
  obtain ⟨a0, len0, cap0, rfl⟩ := okWide_slice Try.underlying29 hv
  obtain ⟨fuel, hf⟩ := h
  rcases Go.Deep.open_slice Try.underlying29 hf with ⟨h0, _⟩ | ⟨a, len, cap, m, n, D, Pl, hcs, _, hlc, hcm, hm, _, hi⟩
  · simp [Value.cells] at h0
    obtain ⟨rfl, rfl, rfl⟩ := h0
    exact ⟨[], ⟨.inl ⟨rfl, rfl⟩, fun b o n cap h => by cases h⟩, by simp, by simp⟩
  · simp [Value.cells] at hcs
    obtain ⟨rfl, rfl, rfl⟩ := hcs
    have hspot : a.spot = none := by
      simp only [Value.okWide, Try.underlying29, Cell.okWide] at hv
      simp [Cell.ok, World.has, Try.underlying29] at hv
      exact hv.2.2.2.1
    obtain ⟨b, o, q⟩ := a
    obtain rfl : q = none := hspot
    have hlen : len0 ≤ m := by rw [hm]; split <;> omega
    have hone : ∀ i, i < len0 → ∃ x : Oq, x.ok ∧ W.cell? ⟨b, o + i * 4, none⟩ = some (.int .i64 x.kind) ∧ W.cell? ⟨b, o + i * 4 + 1, none⟩ = some (.int .i64 x.bank) ∧ W.cell? ⟨b, o + i * 4 + 2, none⟩ = some (.int .i64 x.at_) ∧ W.cell? ⟨b, o + i * 4 + 3, none⟩ = some (.string x.data) := by
      intro i hil
      obtain ⟨cs', h1, h2⟩ := hi i (by omega)
      rw [hc] at h1
      obtain ⟨_, hl4, hat⟩ := World.cells?_some h1
      obtain ⟨x, rfl, hx⟩ := open_op hl4 h2
      refine ⟨x, hx, ?_⟩
      rw [addr_add] at hat
      have g0 := hat 0 (by omega)
      have g1 := hat 1 (by omega)
      have g2 := hat 2 (by omega)
      have g3 := hat 3 (by omega)
      rw [addr_add] at g0 g1 g2 g3
      exact ⟨g0, g1, g2, g3⟩
    have hall : ∀ k, k ≤ len0 → ∃ L : List Oq, L.length = k ∧ (∀ x ∈ L, x.ok) ∧ OpsA W b o L := by
      intro k
      induction k with
      | zero => intro _; exact ⟨[], rfl, by simp, fun i hi => absurd hi (by simp)⟩
      | succ k ih =>
        intro hk
        obtain ⟨L, e, h1, h2⟩ := ih (by omega)
        obtain ⟨x, hx, c⟩ := hone k (by omega)
        refine ⟨L ++ [x], by simp [e], ?_, ?_⟩
        · intro y hy
          rcases List.mem_append.1 hy with h | h
          · exact h1 y h
          · rw [List.mem_singleton.1 h]; exact hx
        · intro i hi
          by_cases hil : i < L.length
          · rw [List.getElem_append_left hil]; exact h2 i hil
          · have hik : i = k := by simp at hi; omega
            subst hik
            rw [List.getElem_append_right (by omega)]
            simpa using c
    obtain ⟨L, e, h1, h2⟩ := hall len0 (Nat.le_refl _)
    refine ⟨L, ⟨.inr ⟨b, o, cap0, by rw [e], h2⟩, fun b' o' n' cap' h => by cases h; exact ⟨hlc, hcm⟩⟩, h1, by omega⟩
end Go.Proofs.Ythagnnaemcknfaa
