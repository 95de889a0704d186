/- Contracts and plain laws, put together: OpenCm. -/
import Derived.Test.YtebkeocpojlepaaGreatDoorG25
import Derived.Test.YtebkeocpojlepaaGreatDoorRows
import Derived.ProofKit
import Derived.OpenShut
import Derived.ShutString
import Derived.Lib.SmallJoins
import Derived.Deep.Slices
import Derived.MakeChecks
/- Commands that came in, opened; the package variable pick.none, as it is laid. -/
namespace Go.Proofs.YtebkeocpojlepaaGreatDoor
open Go.ChangeShapes Go.WideShapes Go.ChangeAt Go.RowKit
set_option maxRecDepth 100000
set_option linter.unusedVariables false
set_option linter.unusedSimpArgs false

theorem trod_float {H : Type} {enc : TypeId × Value → H} {P : Program} {w : World} {base : Nat} {spare : Nat → Bool} {held : Bool} {fuel : Nat} {t : TypeId} {cs : List Value} {x : DataW H × List MemPlace} {k : FloatKind}
    (ht : P.underlying t = some (.float k)) (h : DataW.trod enc P w base spare held fuel t cs = some x) : ∃ n, cs = [.float k n] ∧ x = (.lit (.float k n), []) ∧ (Lit.float k n).wf = true := by
  cases fuel with
  | zero => simp [DataW.trod] at h
  | succ n =>
    unfold DataW.trod at h
    rw [ht] at h
    split at h <;> simp_all

theorem cm_ok {a b : Int} {c d : Nat} (h1 : (Lit.int .i64 a).wf = true) (h2 : (Lit.int .i64 b).wf = true) (h3 : (Lit.float .f64 c).wf = true) (h4 : (Lit.float .f64 d).wf = true) : (⟨a, b, c, d⟩ : Cm).ok :=
  ⟨h1, h2, by simpa [Lit.wf] using h3, by simpa [Lit.wf] using h4⟩

theorem open_cm {H : Type} {enc : TypeId × Value → H} {W : World} {base : Nat} {sp : Nat → Bool} {held : Bool} {n : Nat} {cs : List Value} {x : DataW H × List MemPlace} (hl : cs.length = 4)
    (h : DataW.trod enc Tryz.prog W base sp held n 25 cs = some x) : ∃ c : Cm, cs = (cmC c).toList ∧ c.ok := by
  have hcF : Tryz.prog.cellsOf 23 = 1 := by kernel_rfl
  have hcI : Tryz.prog.cellsOf 3 = 1 := by kernel_rfl
  obtain ⟨ys, m, _, _, _, hly, hff⟩ := Go.DataW.trod_struct Tryz.underlying25 h
  match cs, hl with
  | [c0, c1, c2, c3], _ =>
    match ys, hly with
    | [y0, y1, y2, y3], _ =>
      have hy0 := hff 0 _ rfl
      have hy1 := hff 1 _ rfl
      have hy2 := hff 2 _ rfl
      have hy3 := hff 3 _ rfl
      simp [hcF, hcI] at hy0 hy1 hy2 hy3
      obtain ⟨a, ea, _, sa⟩ := DataW.trod_int Tryz.underlying3 hy0
      obtain ⟨b, eb, _, sb⟩ := DataW.trod_int Tryz.underlying3 hy1
      obtain ⟨c, ec, _, sc⟩ := trod_float Tryz.underlying23 hy2
      obtain ⟨d, ed, _, sd⟩ := trod_float Tryz.underlying23 hy3
      simp at ea eb ec ed
      subst ea eb ec ed
      exact ⟨⟨a, b, c, d⟩, rfl, cm_ok sa sb sc sd⟩

theorem open_cmds {H : Type} {enc : TypeId × Value → H} {W : World} {base : Nat} {sp : Nat → Bool} {held : Bool} {r : Reach} {b0 : Nat} {v : Value} {d : DataW H} {p : List MemPlace}
    (hv : Value.okWide Tryz.prog W r b0 22 v) (h : DataW.Trod enc Tryz.prog W base sp held 22 v d p) : ∃ L : List Cm, CmsV W v L ∧ (∀ x ∈ L, x.ok) ∧ L.length ≤ maxLen := by
  have hc : Tryz.prog.cellsOf 25 = 4 := by kernel_rfl
  obtain ⟨a0, len0, cap0, rfl⟩ := okWide_slice Tryz.underlying22 hv
  obtain ⟨fuel, hf⟩ := h
  rcases Go.Deep.open_slice Tryz.underlying22 hf with ⟨h0, _⟩ | ⟨a, len, cap, m, n, D, Pl, hcs, _, hlc, hcm, hm, _, hi⟩
  · simp [Value.cells] at h0
    obtain ⟨rfl, rfl, rfl⟩ := h0
    exact ⟨[], .inl ⟨rfl, rfl⟩, by simp, by simp⟩
  · simp [Value.cells] at hcs
    obtain ⟨rfl, rfl, rfl⟩ := hcs
    have hspot : a.spot = none := by
      simp only [Value.okWide, Tryz.underlying22, Cell.okWide] at hv
      simp [Cell.ok, World.has, Tryz.underlying22] at hv
      exact hv.2.2.2.1
    obtain ⟨b, o, q⟩ := a
    obtain rfl : q = none := hspot
    have hlen : len0 ≤ m := by rw [hm]; split <;> omega
    have hone : ∀ i, i < len0 → ∃ x : Cm, x.ok ∧ W.cell? ⟨b, o + i * 4, none⟩ = some (.int .i64 x.kind) ∧ W.cell? ⟨b, o + i * 4 + 1, none⟩ = some (.int .i64 x.n) ∧ W.cell? ⟨b, o + i * 4 + 2, none⟩ = some (.float .f64 x.lat) ∧ W.cell? ⟨b, o + i * 4 + 3, none⟩ = some (.float .f64 x.lon) := by
      intro i hil
      obtain ⟨cs', h1, h2⟩ := hi i (by omega)
      rw [hc] at h1
      obtain ⟨_, hl4, hat⟩ := World.cells?_some h1
      obtain ⟨x, rfl, hx⟩ := open_cm hl4 h2
      refine ⟨x, hx, ?_⟩
      rw [addr_add] at hat
      have g0 := hat 0 (by omega)
      have g1 := hat 1 (by omega)
      have g2 := hat 2 (by omega)
      have g3 := hat 3 (by omega)
      rw [addr_add] at g0 g1 g2 g3
      exact ⟨g0, g1, g2, g3⟩
    have hall : ∀ k, k ≤ len0 → ∃ L : List Cm, L.length = k ∧ (∀ x ∈ L, x.ok) ∧ CmsA W b o L := by
      intro k
      induction k with
      | zero => intro _; exact ⟨[], rfl, by simp, fun i hi => absurd hi (by simp)⟩
      | succ k ih =>
        intro hk
        obtain ⟨L, e, h1, h2⟩ := ih (by omega)
        obtain ⟨x, hx, c⟩ := hone k (by omega)
        refine ⟨L ++ [x], by simp [e], ?_, ?_⟩
        · intro y hy
          rcases List.mem_append.1 hy with h | h
          · exact h1 y h
          · rw [List.mem_singleton.1 h]; exact hx
        · intro i hi
          by_cases hil : i < L.length
          · rw [List.getElem_append_left hil]; exact h2 i hil
          · have hik : i = k := by simp at hi; omega
            subst hik
            rw [List.getElem_append_right (by omega)]
            simpa using c
    obtain ⟨L, e, h1, h2⟩ := hall len0 (Nat.le_refl _)
    exact ⟨L, .inr ⟨b, o, cap0, by rw [e], h2⟩, h1, by omega⟩

abbrev laidN : List (String × DataW Unit) := Rows.topArmedRow.laid
def nameN : String := (laidN.map (·.1)).headD default
theorem gNone : Tryz.prog.globalNamed nameN = some 0 := by kernel_rfl
theorem tNone : (Tryz.prog.globals[0]?).map (·.type) = some 74 := by kernel_rfl
theorem none_cells {enc : TypeId × Value → Unit} {W : World} {base : Nat} {sp : Nat → Bool} {held : Bool} {n : Nat} {cs : List Value} {p : List MemPlace}
    (h : DataW.trod enc Tryz.prog W base sp held n 74 cs = some (Rows.laid_dogwatch_pick_none, p)) : cs = psN.toList := by
  have hcU : Tryz.prog.cellsOf 72 = 1 := by kernel_rfl
  have hcI : Tryz.prog.cellsOf 3 = 1 := by kernel_rfl
  have hcS : Tryz.prog.cellsOf 74 = 4 := by kernel_rfl
  obtain ⟨ys, m, _, hx, hl, hly, hff⟩ := Go.DataW.trod_struct Tryz.underlying74 h
  rw [hcS] at hl
  match cs, hl with
  | [c0, c1, c2, c3], _ =>
    match ys, hly with
    | [y0, y1, y2, y3], _ =>
      have hy0 := hff 0 _ rfl
      have hy1 := hff 1 _ rfl
      have hy2 := hff 2 _ rfl
      have hy3 := hff 3 _ rfl
      simp [hcU, hcI] at hy0 hy1 hy2 hy3
      obtain ⟨a, ea, xa, _⟩ := DataW.trod_int Tryz.underlying3 hy0
      obtain ⟨b, eb, xb, _⟩ := DataW.trod_int Tryz.underlying72 hy1
      obtain ⟨c, ec, xc, _⟩ := DataW.trod_int Tryz.underlying72 hy2
      obtain ⟨d, ed, xd, _⟩ := DataW.trod_int Tryz.underlying72 hy3
      simp at ea eb ec ed
      subst ea eb ec ed xa xb xc xd
      simp [Rows.laid_dogwatch_pick_none] at hx
      obtain ⟨⟨rfl, rfl, rfl, rfl⟩, _⟩ := hx
      rfl
theorem noneG_of {W : World} (h : laidMetH Tryz.prog laidN W) : NoneG W := by
  rw [MakeChecks.laidMetH_plain _ _ _ (by kernel_rfl)] at h
  obtain ⟨ps, ⟨g, t, cs, fuel, p, q, hg, ht, hv, hd, hr, hps⟩, hnd, hc⟩ := h
  obtain rfl := Option.some.inj (gNone.symm.trans hg)
  obtain rfl := Option.some.inj (tNone.symm.trans ht)
  have e := none_cells hd
  have ec : cs = psN := Array.ext' e
  have hv : W.var? Tryz.prog nameN = some cs := hv
  unfold World.var? at hv
  rw [gNone, ec] at hv
  simp only [Option.bind_some] at hv
  split at hv
  · rename_i cs' t' fr' hh
    cases hv
    exact ⟨_, _, hh⟩
  · cases hv
end Go.Proofs.YtebkeocpojlepaaGreatDoor
