/- Plain laws of a bank in which the next slot is written. -/
import Derived.Test.YtopcklbeppiipaaScanL
namespace Go.Proofs.Ytopcklbeppiipaa
open Go.RowKit
set_option linter.unusedVariables false
set_option linter.unusedSimpArgs false

theorem lastK_congr {s t : ByteArray} {q : Nat} (h : ∀ j : Nat, 1 ≤ j → j ≤ q → slotS t (j : Int) = slotS s (j : Int)) : lastK t q = lastK s q := by
  induction q with
  | zero => rfl
  | succ q ih =>
    have ih' := ih (fun j h1 h2 => h j h1 (by omega))
    have e := h (q + 1) (by omega) (Nat.le_refl _)
    rw [show ((q + 1 : Nat) : Int) = (q : Int) + 1 by omega] at e
    have es : stateS t ((q : Int) + 1) = stateS s ((q : Int) + 1) := by unfold stateS; rw [e]
    by_cases h2 : stateS s ((q : Int) + 1) = 2
    · cases ho : lastK s q with
      | none => rw [lastK_first (es.trans h2) (ih'.trans ho), lastK_first h2 ho]
      | some m =>
        obtain ⟨i1, i2, _, _⟩ := lastK_some ho
        have em := h m i1 (by omega)
        by_cases hn : decN (slotS s ((q : Int) + 1)) < decN (slotS s (m : Int))
        · rw [lastK_elder (es.trans h2) (ih'.trans ho) (by rw [e, em]; exact hn), lastK_elder h2 ho hn]
        · rw [lastK_newer (es.trans h2) (ih'.trans ho) (by rw [e, em]; exact hn), lastK_newer h2 ho hn]
    · rw [lastK_skip (by rw [es]; exact h2), lastK_skip h2, ih']
theorem lastK_tail {s : ByteArray} {a n : Nat} (ha : a ≤ n) (h : ∀ j : Nat, a ≤ j → j < n → stateS s ((j : Int) + 1) ≠ 2) : lastK s n = lastK s a := by
  induction n with
  | zero => obtain rfl : a = 0 := by omega
            rfl
  | succ n ih =>
    by_cases hn : a = n + 1
    · rw [hn]
    · rw [lastK_skip (h n (by omega) (by omega)), ih (by omega) (fun j h1 h2 => h j h1 (by omega))]
theorem goodN_congr {s t : ByteArray} {q : Nat} (h : ∀ j : Nat, 1 ≤ j → j ≤ q → slotS t (j : Int) = slotS s (j : Int)) : goodN t q = goodN s q := by
  induction q with
  | zero => rfl
  | succ q ih =>
    have e := h (q + 1) (by omega) (Nat.le_refl _)
    rw [show ((q + 1 : Nat) : Int) = (q : Int) + 1 by omega] at e
    have es : stateS t ((q : Int) + 1) = stateS s ((q : Int) + 1) := by unfold stateS; rw [e]
    rw [goodN, goodN, es, ih (fun j h1 h2 => h j h1 (by omega))]
theorem goodN_tail {s : ByteArray} {a n : Nat} (ha : a ≤ n) (h : ∀ j : Nat, a ≤ j → j < n → stateS s ((j : Int) + 1) ≠ 2) : goodN s n = goodN s a := by
  induction n with
  | zero => obtain rfl : a = 0 := by omega
            rfl
  | succ n ih =>
    by_cases hn : a = n + 1
    · rw [hn]
    · rw [goodN, if_neg (h n (by omega) (by omega)), ih (by omega) (fun j h1 h2 => h j h1 (by omega)), Nat.add_zero]
theorem free_of {s : ByteArray} {a n : Nat} (ha : a ≤ n) (hz : ∀ j : Nat, a < j → j ≤ n → stateS s (j : Int) = 0) (hs : 0 < a → stateS s (a : Int) ≠ 0) : free s n = n - a := by
  have l := free_le s n
  rcases Nat.lt_trichotomy (n - free s n) a with h | h | h
  · exact absurd (free_zero s n a h ha) (hs (by omega))
  · omega
  · exact absurd (hz _ h (by omega)) (free_stop s n _ rfl (by omega))

/-- t is s, but at the place k it holds X -/
structure Swap (s t X : ByteArray) (k m : Nat) : Prop where
  ns : placeN s = m + 1
  nt : placeN t = m + 1
  size : t.size = s.size
  at' : slotS t (k : Int) = X
  other : ∀ j : Nat, j ≤ m → j ≠ k → slotS t (j : Int) = slotS s (j : Int)
theorem swap_mk (s X : ByteArray) (k m : Nat) (hN : placeN s = m + 1) (hm : 1 ≤ m) (hi : k ≤ m) (hX : X.size = 24) :
    Swap s (s.extract 0 (24 * k) ++ X ++ s.extract (24 * k + 24) s.size) X k m := by
  obtain ⟨h1, h2, h3⟩ := placeN_pos (by omega : 0 < placeN s)
  rw [hN] at h1
  have M : Made (s.extract 0 (24 * k) ++ X ++ s.extract (24 * k + 24) s.size) (s.extract 0 (24 * k)) X (s.extract (24 * k + 24) s.size) k m :=
    ⟨rfl, by rw [ByteArray.size_extract]; omega, hX, by rw [ByteArray.size_extract]; omega, hi, hm, by omega⟩
  have hp := M.placeN
  have hz := M.size
  refine ⟨hN, hp, by omega, by rw [slotS_nat _ _ (by omega), M.at], fun j hj hne => ?_⟩
  rw [slotS_nat _ _ (by omega), slotS_nat _ _ (by omega)]
  rcases Nat.lt_or_gt_of_ne hne with hlt | hgt
  · rw [M.ahead j hlt, ByteArray.extract_extract]
    unfold place
    rw [Nat.min_eq_left (by omega)]
    simp
  · rw [M.behind j hgt, ByteArray.extract_extract]
    unfold place
    rw [Nat.min_eq_left (by omega)]
    congr 1 <;> omega

theorem next_zero {s : ByteArray} {k m : Nat} (hN : placeN s = m + 1) (hk : nextS s = (k : Int)) (hk1 : 1 ≤ k) : k ≤ m ∧ ∀ j : Nat, k ≤ j → j ≤ m → stateS s (j : Int) = 0 := by
  unfold nextS at hk
  rw [hN, show m + 1 - 1 = m by omega] at hk
  have l := free_le s m
  split at hk
  · omega
  · exact ⟨by omega, fun j h1 h2 => free_zero s m j (by omega) h2⟩
theorem nextS_le (s : ByteArray) : nextS s = 0 ∨ ∃ k m : Nat, nextS s = (k : Int) ∧ 1 ≤ k ∧ k ≤ m ∧ placeN s = m + 1 ∧ m ≤ 12 := by
  have l := free_le s (placeN s - 1)
  have h13 : placeN s ≤ 13 := by unfold placeN; split <;> omega
  unfold nextS
  split
  · exact .inl rfl
  · exact .inr ⟨placeN s - 1 - free s (placeN s - 1) + 1, placeN s - 1, by omega, by omega, by omega, by omega, by omega⟩

theorem swap_next {s t X : ByteArray} {k m : Nat} (h : Swap s t X k m) (hk1 : 1 ≤ k) (hk : nextS s = (k : Int)) (hc : stateP (k : Int) X ≠ 0) : nextS t = if k = m then 0 else (k : Int) + 1 := by
  obtain ⟨hkm, hz⟩ := next_zero h.ns hk hk1
  have hf : free t m = m - k := free_of hkm (fun j h1 h2 => by unfold stateS; rw [h.other j h2 (by omega)]; exact hz j (by omega) h2) (fun _ => by unfold stateS; rw [h.at']; exact hc)
  unfold nextS
  rw [h.nt, show m + 1 - 1 = m by omega, hf]
  split
  · rw [if_pos (by omega)]
  · rw [if_neg (by omega)]; omega
theorem swap_good {s t X : ByteArray} {k m : Nat} (h : Swap s t X k m) (hk1 : 1 ≤ k) (hk : nextS s = (k : Int)) : goodS t = goodS s + (if stateP (k : Int) X = 2 then 1 else 0) := by
  obtain ⟨hkm, hz⟩ := next_zero h.ns hk hk1
  obtain ⟨q, rfl⟩ : ∃ q, k = q + 1 := ⟨k - 1, by omega⟩
  unfold goodS
  rw [h.ns, h.nt, show m + 1 - 1 = m by omega]
  rw [goodN_tail (s := s) (a := q) (by omega) (fun j h1 h2 => by have := hz (j + 1) (by omega) (by omega); rw [show ((j + 1 : Nat) : Int) = (j : Int) + 1 by omega] at this; rw [this]; decide)]
  rw [goodN_tail (s := t) (a := q + 1) (by omega) (fun j h1 h2 => by have := hz (j + 1) (by omega) (by omega); have e := h.other (j + 1) (by omega) (by omega); rw [show ((j + 1 : Nat) : Int) = (j : Int) + 1 by omega] at this e; unfold stateS at this ⊢; rw [e, this]; decide)]
  have ha := h.at'
  rw [goodN, goodN_congr (s := s) (fun j h1 h2 => h.other j (by omega) (by omega))]
  unfold stateS
  rw [show ((q + 1 : Nat) : Int) = (q : Int) + 1 by omega] at ha ⊢
  rw [ha]
theorem swap_lastK {s t X : ByteArray} {q m : Nat} (h : Swap s t X (q + 1) m) (hk : nextS s = ((q + 1 : Nat) : Int)) : lastK t m = lastK t (q + 1) ∧ lastK t q = lastK s q ∧ lastK s m = lastK s q := by
  obtain ⟨hkm, hz⟩ := next_zero h.ns hk (by omega)
  refine ⟨lastK_tail (by omega) (fun j h1 h2 => ?_), lastK_congr (fun j h1 h2 => h.other j (by omega) (by omega)), lastK_tail (by omega) (fun j h1 h2 => ?_)⟩
  · have := hz (j + 1) (by omega) (by omega)
    have e := h.other (j + 1) (by omega) (by omega)
    rw [show ((j + 1 : Nat) : Int) = (j : Int) + 1 by omega] at this e
    unfold stateS at this ⊢
    rw [e, this]; decide
  · have := hz (j + 1) (by omega) (by omega)
    rw [show ((j + 1 : Nat) : Int) = (j : Int) + 1 by omega] at this
    rw [this]; decide
theorem swap_dirt {s t X : ByteArray} {k m : Nat} (h : Swap s t X k m) (hk1 : 1 ≤ k) (hk : nextS s = (k : Int)) (hc : stateP (k : Int) X ≠ 2) : lastV t = lastV s := by
  obtain ⟨q, rfl⟩ : ∃ q, k = q + 1 := ⟨k - 1, by omega⟩
  obtain ⟨e1, e2, e3⟩ := swap_lastK h hk
  obtain ⟨hkm, hz⟩ := next_zero h.ns hk (by omega)
  have ha := h.at'
  rw [show ((q + 1 : Nat) : Int) = (q : Int) + 1 by omega] at ha hc
  have e4 : lastK t (q + 1) = lastK t q := lastK_skip (by unfold stateS; rw [ha]; exact hc)
  have el : lastS t = lastS s := by unfold lastS; rw [h.nt, h.ns, show m + 1 - 1 = m by omega, e1, e4, e2, e3]
  unfold lastV
  rw [el]
  cases ho : lastS s with
  | none => rfl
  | some x =>
    have hx : lastK s q = some x := by rw [← e3, ← ho]; unfold lastS; rw [h.ns]; rfl
    obtain ⟨i1, i2, _, _⟩ := lastK_some hx
    have es := h.other x (by omega) (by omega)
    show Value.tuple #[.agg #[.int .i64 (decK (slotS t (x : Int)) : Nat), .int .u64 (decN (slotS t (x : Int)) : Nat), .int .u64 (decD (slotS t (x : Int)) : Nat)], .int .i64 0] = .tuple #[.agg #[.int .i64 (decK (slotS s (x : Int)) : Nat), .int .u64 (decN (slotS s (x : Int)) : Nat), .int .u64 (decD (slotS s (x : Int)) : Nat)], .int .i64 0]
    rw [es]
theorem swap_new {s t X : ByteArray} {k m : Nat} (h : Swap s t X k m) (hk1 : 1 ≤ k) (hk : nextS s = (k : Int)) (hc : stateP (k : Int) X = 2) (hn : oE (lastS s) = 0 → oN s (lastS s) ≤ decN X) :
    lastV t = .tuple #[.agg #[.int .i64 (decK X : Nat), .int .u64 (decN X : Nat), .int .u64 (decD X : Nat)], .int .i64 0] := by
  obtain ⟨q, rfl⟩ : ∃ q, k = q + 1 := ⟨k - 1, by omega⟩
  obtain ⟨e1, e2, e3⟩ := swap_lastK h hk
  obtain ⟨hkm, hz⟩ := next_zero h.ns hk (by omega)
  have ha := h.at'
  have hx : lastS s = lastK s q := by rw [← e3]; unfold lastS; rw [h.ns]; rfl
  rw [hx] at hn
  have ha' := ha
  rw [show ((q + 1 : Nat) : Int) = (q : Int) + 1 by omega] at ha' hc
  have h2 : stateS t ((q : Int) + 1) = 2 := by unfold stateS; rw [ha']; exact hc
  have e4 : lastK t (q + 1) = some (q + 1) := by
    cases ho : lastK s q with
    | none => exact lastK_first h2 (e2.trans ho)
    | some x =>
      obtain ⟨i1, i2, _, _⟩ := lastK_some ho
      refine lastK_newer h2 (e2.trans ho) ?_
      rw [ha', h.other x (by omega) (by omega)]
      rw [ho] at hn
      have := hn rfl
      rw [show oN s (some x) = decN (slotS s (x : Int)) from rfl] at this
      omega
  have el : lastS t = some (q + 1) := by unfold lastS; rw [h.nt, show m + 1 - 1 = m by omega, e1, e4]
  unfold lastV
  rw [el]
  show Value.tuple #[.agg #[.int .i64 (decK (slotS t ((q + 1 : Nat) : Int)) : Nat), .int .u64 (decN (slotS t ((q + 1 : Nat) : Int)) : Nat), .int .u64 (decD (slotS t ((q + 1 : Nat) : Int)) : Nat)], .int .i64 0] = _
  rw [ha]
end Go.Proofs.Ytopcklbeppiipaa
