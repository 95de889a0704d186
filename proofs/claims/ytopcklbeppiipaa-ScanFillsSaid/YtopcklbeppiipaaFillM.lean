/- Plain laws of a bank that is filled, slot by slot (ScanFills). -/
import Derived.Test.YtopcklbeppiipaaScanP
namespace Go.Proofs.Ytopcklbeppiipaa
open Go.RowKit
set_option linter.unusedVariables false
set_option linter.unusedSimpArgs false

/-- a bank of k slots, of which those ahead of i are filled -/
structure Fill (s : ByteArray) (k i : Nat) : Prop where
  n : placeN s = k + 1
  next : nextS s = if i ≤ k then (i : Int) else 0
  good : goodS s = i - 1
  gen : stateS s 0 = 2
  last : oE (lastS s) = 0 → oN s (lastS s) < i
theorem Fill.genE {s : ByteArray} {k i : Nat} (h : Fill s k i) : genE s = 0 := by unfold Go.Proofs.Ytopcklbeppiipaa.genE; rw [if_pos h.gen]

theorem Fill.start (k : Nat) (h1 : 1 ≤ k) (h12 : k ≤ 12) : Fill (encB 1 1 0 ++ fullB (24 * k)) k 1 := by
  have M : Made (encB 1 1 0 ++ fullB (24 * k)) ⟨#[]⟩ (encB 1 1 0) (fullB (24 * k)) 0 k :=
    ⟨by apply ByteArray.ext; apply Array.ext'; simp, rfl, encB_size 1 1 0, by rw [fullB_size]; omega, by omega, h1, h12⟩
  have hp := M.placeN
  generalize hs : encB 1 1 0 ++ fullB (24 * k) = s at *
  have hz : ∀ j : Nat, 0 < j → j ≤ k → stateS s (j : Int) = 0 := fun j h0 hj => by
    unfold stateS
    rw [slotS_nat _ _ (by omega), M.behind j h0, full_ext _ _ _ (by omega), show 24 * (j - 0 - 1) + 24 - 24 * (j - 0 - 1) = 24 by omega, stateP_full]
  have hf : free s k = k := free_of (by omega) hz (fun h => by omega)
  have hz2 : ∀ j : Nat, 0 ≤ j → j < k → stateS s ((j : Int) + 1) ≠ 2 := fun j h0 hj => by
    have := hz (j + 1) (by omega) (by omega)
    rw [show ((j + 1 : Nat) : Int) = (j : Int) + 1 by omega] at this
    rw [this]; decide
  refine ⟨hp, ?_, ?_, ?_, ?_⟩
  · unfold nextS
    rw [hp, show k + 1 - 1 = k by omega, hf, if_neg (by omega), if_pos h1]
    omega
  · unfold goodS
    rw [hp, show k + 1 - 1 = k by omega, goodN_tail (a := 0) (by omega) hz2]
    rfl
  · unfold stateS
    rw [show (0 : Int) = ((0 : Nat) : Int) from rfl, slotS_nat _ _ (by omega), M.at]
    decide +kernel
  · intro he
    have : lastS s = none := by unfold lastS; rw [hp, show k + 1 - 1 = k by omega, lastK_tail (a := 0) (by omega) hz2]; rfl
    rw [this] at he
    cases he

theorem Fill.step {s : ByteArray} {k i : Nat} (X : ByteArray) (h : Fill s k i) (h1 : 1 ≤ i) (hik : i ≤ k) (hX : X.size = 24) (hc : stateP (i : Int) X = 2) (hn : decN X = i) :
    Fill (s.extract 0 (24 * i) ++ X ++ s.extract (24 * i + 24) s.size) k (i + 1) ∧
    (s.extract 0 (24 * i) ++ X ++ s.extract (24 * i + 24) s.size).size = s.size ∧
    lastV (s.extract 0 (24 * i) ++ X ++ s.extract (24 * i + 24) s.size) = .tuple #[.agg #[.int .i64 (decK X : Nat), .int .u64 (decN X : Nat), .int .u64 (decD X : Nat)], .int .i64 0] := by
  have SW := swap_mk s X i k h.n (by omega) hik hX
  have hk := h.next
  rw [if_pos hik] at hk
  generalize s.extract 0 (24 * i) ++ X ++ s.extract (24 * i + 24) s.size = t at *
  have hL := swap_new SW h1 hk hc (fun he => by rw [hn]; have := h.last he; omega)
  refine ⟨⟨SW.nt, ?_, ?_, ?_, ?_⟩, SW.size, hL⟩
  · rw [swap_next SW h1 hk (by rw [hc]; decide)]
    by_cases hik2 : i = k
    · rw [if_pos hik2, if_neg (by omega)]
    · rw [if_neg hik2, if_pos (by omega)]; omega
  · rw [swap_good SW h1 hk, hc, if_pos rfl, h.good]; omega
  · have := SW.other 0 (by omega) (by omega)
    have hg := h.gen
    unfold stateS at hg ⊢
    rw [show ((0 : Nat) : Int) = 0 from rfl] at this
    rw [this]; exact hg
  · intro _
    unfold lastV at hL
    have h2 : (oN t (lastS t) : Int) = (decN X : Int) := by
      injection hL with hL
      have := congrArg (fun a : Array Value => a[0]?) hL
      simp at this
      exact this.2.1
    rw [hn] at h2
    omega
theorem Fill.sound {s : ByteArray} {k i : Nat} (h : Fill s k (i + 1)) (h1 : 1 ≤ i) : soundS s = true := by
  unfold soundS
  rw [h.genE, h.good]
  simp; omega
end Go.Proofs.Ytopcklbeppiipaa
