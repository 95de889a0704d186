/- A region that draws its order, whose first n operations only read or call (callees make memory, nothing below block B is changed), and whose last ones stand in one order behind them: the first ones are walked once, the last ones as a list. -/
import Derived.StillTail
import Derived.Test.YtclhdgolcaacbaaCalm
namespace Go.Proofs.Ytclhdgolcaacbaa
open Go.RowKit

section
variable {P : Program} {ops : Array Oper} {md : Region.Mode} {C : World → Prop}

/-- the first operations, in whatever order, each quiet in the class; then L -/
def headQ (P : Program) (md : Region.Mode) (ops : Array Oper) (C : World → Prop) (n : Nat) (L : Array Bool → Act → Prop) : Nat → Array Bool → Act → Prop
  | 0, d, a => L d a
  | f + 1, d, a => Region.ready md ops d ≠ [] ∧ ∀ i, i ∈ Region.ready md ops d → i < n ∧ qOp P ops C i (headQ P md ops C n L f (d.setIfInBounds i true)) a

theorem headQ_any {n g : Nat} {L : Array Bool → Act → Prop} {Q : Exit → Act → World → Prop} (hL : ∀ d a w, C w → L d a → wpAny P md ops Q g d a w) :
    ∀ (f : Nat) (d : Array Bool) (a : Act) (w : World), C w → headQ P md ops C n L f d a → wpAny P md ops Q (f + g) d a w := by
  intro f
  induction f with
  | zero => intro d a w hw h; rw [Nat.zero_add]; exact hL d a w hw h
  | succ f ih =>
    intro d a w hw h
    rw [Nat.succ_add]
    refine ⟨fun h0 => absurd h0 h.1, fun i hi => ?_⟩
    exact wpOp_of_qOp hw (fun a' w' hw' hh => ih _ a' w' hw' hh) (h.2 i hi).2

/-- an operation that may come now may come first -/
theorem headQ_first {n i : Nat} {oi : Oper} {v : Value} {L : Array Bool → Act → Prop} (hs : Region.sinkB md ops n = true) (hc : Region.chainB md ops n = true) (hn : n < ops.size) (hsel : Region.noSelect ops = true)
    (hi : ops[i]? = some oi) (hin : i < n) (hL : ∀ d a, L d a → ∀ j, j ∈ Region.ready md ops d → n ≤ j) (f : Nat) :
    ∀ (d : Array Bool) (a : Act), HeadInv md ops n d → i ∈ Region.ready md ops d →
      (∀ j oj, ops[j]? = some oj → j ≠ i → d.getD j true = false → (∀ e ∈ oj.after, Region.binds md e = true → e.on ≠ i) → oi.apart ops oj = true) →
      YieldsIn P ops C oi v a → headQ P md ops C n L f (d.setIfInBounds i true) (a.put oi.dst v) → headQ P md ops C n L (f + 1) d a := by
  have hsl := Region.noSelect_spec hsel
  induction f with
  | zero =>
    intro d a inv hr hfree hy H
    refine ⟨List.ne_nil_of_mem hr, fun j hj => ?_⟩
    rcases Decidable.em (j = i) with e | e
    · subst e; exact ⟨hin, hy.qOp hi H⟩
    · exfalso
      have h1 := hL _ _ H j (ready_mono hj e)
      exact tail_waits hs hc hn inv _ i rfl hin (mem_ready.1 hr).1 j h1 hj
  | succ f ih =>
    intro d a inv hr hfree hy H
    refine ⟨List.ne_nil_of_mem hr, fun j hj => ?_⟩
    rcases Decidable.em (j = i) with e | e
    · subst e; exact ⟨hin, hy.qOp hi H⟩
    · have hjn : j < n := by
        rcases Nat.lt_or_ge j n with h | h
        · exact h
        · exact absurd hj (tail_waits hs hc hn inv _ i rfl hin (mem_ready.1 hr).1 j h)
      obtain ⟨hju, oj, hoj, hall⟩ := mem_ready.1 hj
      have hno : ∀ e ∈ oj.after, Region.binds md e = true → e.on ≠ i := by
        intro e1 he hb heq
        have h1 := hall e1 he hb
        rw [heq, getD_both (mem_ready.1 hr).1] at h1
        cases h1
      refine ⟨hjn, ?_⟩
      have h2 := qOp_put hoj (hfree j oj hoj e hju hno) (fun cs b => hsl i oi cs b hi) (fun cs b => hsl j oj cs b hoj) hy (H.2 j (ready_mono hj e)).2
      refine qOp_mono (fun a' h3 => ?_) h2
      refine ih (d.setIfInBounds j true) a' (inv.set hj hjn) (ready_mono hr (Ne.symm e)) ?_ h3.1 (by rw [Array.setIfInBounds_comm _ _ e]; exact h3.2)
      intro k ok hk hki hun hnk
      refine hfree k ok hk hki ?_ hnk
      by_cases hjk : j = k
      · subst hjk; exact hju
      · rwa [getD_set_ne true hjk] at hun

theorem headQ_lex {n g : Nat} {T : Act → Prop} (hs : Region.sinkB md ops n = true) (hc : Region.chainB md ops n = true) (hn : n < ops.size) (hsel : Region.noSelect ops = true) (l : List Oper) :
    ∀ (k : Nat) (d : Array Bool) (a : Act), k + l.length = n → (∀ j, j < l.length → l[j]? = ops[k + j]?) → HeadInv md ops n d → Region.lexHead md ops g l.length k d = true →
      wpQuiet P ops C T l a → headQ P md ops C n (fun d' a' => Region.seqB md ops g n d' = true ∧ T a') l.length d a := by
  induction l with
  | nil =>
    intro k d a hk _ _ hB h
    obtain rfl : k = n := by simpa using hk
    exact ⟨hB, h⟩
  | cons o l ih =>
    intro k d a hk hl inv hB h
    have h0 : ops[k]? = some o := by simpa using (hl 0 (by simp)).symm
    have hB2 : ((Region.ready md ops d).contains k && Region.free md ops d k && Region.lexHead md ops g l.length (k + 1) (d.setIfInBounds k true)) = true := hB
    rw [Bool.and_eq_true, Bool.and_eq_true] at hB2
    have hr : k ∈ Region.ready md ops d := by simpa using hB2.1.1
    have hlen : (o :: l).length = l.length + 1 := rfl
    have hkn : k < n := by omega
    obtain ⟨v, hy, hK⟩ := yieldsIn_of_qOp (P := P) (C := C) h0 (K := wpQuiet P ops C T l) (a := a) (by unfold qOp; rw [h0]; exact h)
    refine headQ_first hs hc hn hsel h0 hkn (fun _ _ hd => seqB_ready hd.1) l.length d a inv hr (Region.free_spec h0 hB2.1.2) hy ?_
    refine ih (k + 1) _ _ (by omega) (fun j hj => ?_) (inv.set hr hkn) hB2.2 hK
    have := hl (j + 1) (by rw [hlen]; omega)
    rw [show k + 1 + j = k + (j + 1) by omega]
    simpa using this
end

theorem wp_region_calm_tail (B n : Nat) {P : Program} {id : Nat} {Q : Exit → Act → World → Prop} {a : Act} {w : World} {l : List Oper} (hm : P.follows .mixedOrders = true) (hB : Region.lexTailB .any l.toArray n = true)
    (h : wpQuiet P l.toArray (fun w' => ∃ m : CalmW B w, w' = m.val) (fun a' => ∀ w', (∃ m : CalmW B w, w' = m.val) → wpList P l.toArray Q (l.drop n) a' w') (l.take n) a) : (Code.region id l.toArray true).wp P Q a w := by
  unfold Region.lexTailB at hB
  rw [Bool.and_eq_true, Bool.and_eq_true, Bool.and_eq_true, Bool.and_eq_true] at hB
  obtain ⟨⟨⟨⟨hsel, hn0⟩, hs⟩, hc⟩, hx⟩ := hB
  have hn : n < l.toArray.size := of_decide_eq_true hn0
  have hn2 : n < l.length := by simpa using hn
  have ht : (l.take n).length = n := by rw [List.length_take]; omega
  have hd : (l.drop n).length = l.toArray.size - n := by simp
  have inv0 : HeadInv .any l.toArray n (Array.replicate l.toArray.size false) :=
    ⟨by simp, fun j oj _ hl => absurd hl (by rw [getD_replicate_false]; exact Bool.false_ne_true), fun t _ h2 => getD_in (by simpa using h2) (getD_replicate_false _ _)⟩
  have H := headQ_lex (P := P) (C := fun w' => ∃ m : CalmW B w, w' = m.val) (md := .any) (g := l.toArray.size - n) hs hc hn hsel (l.take n) 0 _ a (by omega)
    (fun j hj => by rw [List.getElem?_take_of_lt (by omega)]; simp) inv0 (by rw [ht]; exact hx) h
  refine wp_region_any hm ?_
  have H2 := headQ_any (g := l.toArray.size - n) (Q := Q) (fun d a' w' hw hL => by
    have h5 := wpAny_of_seq (P := P) (md := .any) (Q' := Q) (l.drop n) n d a' w' (fun j => by simp [List.getElem?_drop]) (by rw [hd]; exact hL.1) (hL.2 w' hw)
    rwa [hd] at h5) (l.take n).length _ a { w with drawn := w.drawn + 1 } ⟨⟨_, (Below.refl B w).drew⟩, rfl⟩ H
  rw [ht, show n + (l.toArray.size - n) = l.toArray.size by omega] at H2
  exact H2
end Go.Proofs.Ytclhdgolcaacbaa
