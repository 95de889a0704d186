/- A region that draws its order, whose first n operations only read or call (callees make memory, nothing below block B is changed), and whose other operations all wait for the n-th: the first ones are walked once; what is left is asked in whatever order it may come. -/
import Derived.Test.YtclhdgolcaacbaaCalmTail
namespace Go.Proofs.Ytclhdgolcaacbaa
open Go.RowKit

section
variable {P : Program} {ops : Array Oper} {md : Region.Mode} {C : World → Prop}

/-- the operations from n on wait for the one ahead of n, or for one of their own; all ahead of it are waited for -/
def stopB (md : Region.Mode) (ops : Array Oper) (n : Nat) : Bool :=
  Region.sinkB md ops (n - 1) && (List.range ops.size).all fun t => decide (t < n) || Region.waitsFor md ops t (n - 1) || (List.range ops.size).any fun j => decide (n ≤ j) && Region.waitsFor md ops t j

theorem last_open {n : Nat} {d : Array Bool} (hs : Region.sinkB md ops (n - 1) = true) (inv : HeadInv md ops n d) :
    ∀ (g i : Nat), n - i = g → i < n → d.getD i false = false → d.getD (n - 1) false = false := by
  intro g
  induction g using Nat.strongRecOn with
  | _ g ih =>
    intro i hg hi hu
    by_cases hl : i = n - 1
    · rw [← hl]; exact hu
    · have h1 := List.all_eq_true.1 hs i (List.mem_range.2 (by omega))
      obtain ⟨j, hj, hj2⟩ := List.any_eq_true.1 h1
      rw [Bool.and_eq_true] at hj2
      have hij : i < j := of_decide_eq_true hj2.1
      have hjn : j < n := by have := List.mem_range.1 hj; omega
      obtain ⟨oj, hoj, e, he, hb, hon⟩ := Region.waitsFor_spec hj2.2
      cases hld : d.getD j false with
      | false => exact ih (n - j) (by omega) j rfl hjn hld
      | true =>
        have h2 := inv.closed j oj hoj hld e he hb
        rw [hon, hu] at h2
        cases h2

theorem tail_stop {n : Nat} {d : Array Bool} (hs : stopB md ops n = true) (inv : HeadInv md ops n d) {i : Nat} (hi : i < n) (hu : d.getD i true = false) : ∀ t, n ≤ t → t ∉ Region.ready md ops d := by
  intro t ht hr
  unfold stopB at hs
  rw [Bool.and_eq_true] at hs
  obtain ⟨_, ot, hot, hall⟩ := mem_ready.1 hr
  have htl : t < ops.size := (Array.getElem?_eq_some_iff.1 hot).1
  have h1 := List.all_eq_true.1 hs.2 t (List.mem_range.2 htl)
  rw [Bool.or_eq_true, Bool.or_eq_true] at h1
  rcases h1 with (h1 | h1) | h1
  · have := of_decide_eq_true h1; omega
  · obtain ⟨o', ho', e, he, hb, hon⟩ := Region.waitsFor_spec h1
    obtain rfl : o' = ot := Option.some.inj (ho'.symm.trans hot)
    have h2 := hall e he hb
    rw [hon, last_open hs.1 inv _ i rfl hi (getD_both hu)] at h2
    cases h2
  · obtain ⟨j, hj, hj2⟩ := List.any_eq_true.1 h1
    rw [Bool.and_eq_true] at hj2
    obtain ⟨o', ho', e, he, hb, hon⟩ := Region.waitsFor_spec hj2.2
    obtain rfl : o' = ot := Option.some.inj (ho'.symm.trans hot)
    have h2 := hall e he hb
    rw [hon, getD_both (inv.tail j (of_decide_eq_true hj2.1) (List.mem_range.1 hj))] at h2
    cases h2

theorem headQ_first2 {n i : Nat} {oi : Oper} {v : Value} {L : Array Bool → Act → Prop} (hs : stopB md ops n = true) (hsel : Region.noSelect ops = true)
    (hi : ops[i]? = some oi) (hin : i < n) (hL : ∀ d a, L d a → ∀ j, j ∈ Region.ready md ops d → n ≤ j) (f : Nat) :
    ∀ (d : Array Bool) (a : Act), HeadInv md ops n d → i ∈ Region.ready md ops d →
      (∀ j oj, ops[j]? = some oj → j ≠ i → d.getD j true = false → (∀ e ∈ oj.after, Region.binds md e = true → e.on ≠ i) → oi.apart ops oj = true) →
      YieldsIn P ops C oi v a → headQ P md ops C n L f (d.setIfInBounds i true) (a.put oi.dst v) → headQ P md ops C n L (f + 1) d a := by
  have hsl := Region.noSelect_spec hsel
  induction f with
  | zero =>
    intro d a inv hr hfree hy H
    refine ⟨List.ne_nil_of_mem hr, fun j hj => ?_⟩
    rcases Decidable.em (j = i) with e | e
    · subst e; exact ⟨hin, hy.qOp hi H⟩
    · exact absurd hj (tail_stop hs inv hin (mem_ready.1 hr).1 j (hL _ _ H j (ready_mono hj e)))
  | succ f ih =>
    intro d a inv hr hfree hy H
    refine ⟨List.ne_nil_of_mem hr, fun j hj => ?_⟩
    rcases Decidable.em (j = i) with e | e
    · subst e; exact ⟨hin, hy.qOp hi H⟩
    · have hjn : j < n := by
        rcases Nat.lt_or_ge j n with h | h
        · exact h
        · exact absurd hj (tail_stop hs inv hin (mem_ready.1 hr).1 j h)
      obtain ⟨hju, oj, hoj, hall⟩ := mem_ready.1 hj
      have hno : ∀ e ∈ oj.after, Region.binds md e = true → e.on ≠ i := by
        intro e1 he hb heq
        have h1 := hall e1 he hb
        rw [heq, getD_both (mem_ready.1 hr).1] at h1
        cases h1
      refine ⟨hjn, ?_⟩
      have h2 := qOp_put hoj (hfree j oj hoj e hju hno) (fun cs b => hsl i oi cs b hi) (fun cs b => hsl j oj cs b hoj) hy (H.2 j (ready_mono hj e)).2
      refine qOp_mono (fun a' h3 => ?_) h2
      refine ih (d.setIfInBounds j true) a' (inv.set hj hjn) (ready_mono hr (Ne.symm e)) ?_ h3.1 (by rw [Array.setIfInBounds_comm _ _ e]; exact h3.2)
      intro k ok hk hki hun hnk
      refine hfree k ok hk hki ?_ hnk
      by_cases hjk : j = k
      · subst hjk; exact hju
      · rwa [getD_set_ne true hjk] at hun

/-- the first ones may come in the order of the text, and each may be taken first; D: which ones have come then -/
def lexHB (md : Region.Mode) (ops : Array Oper) (D : Array Bool) : Nat → Nat → Array Bool → Bool
  | 0, _, d => d == D
  | f + 1, k, d => (Region.ready md ops d).contains k && Region.free md ops d k && lexHB md ops D f (k + 1) (d.setIfInBounds k true)

theorem headQ_lex2 {n : Nat} {D : Array Bool} {T : Act → Prop} (hs : stopB md ops n = true) (hsel : Region.noSelect ops = true) (hD : ∀ j, j ∈ Region.ready md ops D → n ≤ j) (l : List Oper) :
    ∀ (k : Nat) (d : Array Bool) (a : Act), k + l.length = n → (∀ j, j < l.length → l[j]? = ops[k + j]?) → HeadInv md ops n d → lexHB md ops D l.length k d = true →
      wpQuiet P ops C T l a → headQ P md ops C n (fun d' a' => d' = D ∧ T a') l.length d a := by
  induction l with
  | nil =>
    intro k d a hk _ _ hB h
    exact ⟨eq_of_beq hB, h⟩
  | cons o l ih =>
    intro k d a hk hl inv hB h
    have h0 : ops[k]? = some o := by simpa using (hl 0 (by simp)).symm
    have hB2 : ((Region.ready md ops d).contains k && Region.free md ops d k && lexHB md ops D l.length (k + 1) (d.setIfInBounds k true)) = true := hB
    rw [Bool.and_eq_true, Bool.and_eq_true] at hB2
    have hr : k ∈ Region.ready md ops d := by simpa using hB2.1.1
    have hlen : (o :: l).length = l.length + 1 := rfl
    have hkn : k < n := by omega
    obtain ⟨v, hy, hK⟩ := yieldsIn_of_qOp (P := P) (C := C) h0 (K := wpQuiet P ops C T l) (a := a) (by unfold qOp; rw [h0]; exact h)
    refine headQ_first2 hs hsel h0 hkn (fun d' _ hd => by rw [hd.1]; exact hD) l.length d a inv hr (Region.free_spec h0 hB2.1.2) hy ?_
    refine ih (k + 1) _ _ (by omega) (fun j hj => ?_) (inv.set hr hkn) hB2.2 hK
    have := hl (j + 1) (by rw [hlen]; omega)
    rw [show k + 1 + j = k + (j + 1) by omega]
    simpa using this
end

def headAllB (ops : Array Oper) (n : Nat) (D : Array Bool) : Bool :=
  Region.noSelect ops && decide (n ≤ ops.size) && stopB .any ops n && (Region.ready .any ops D).all (fun j => decide (n ≤ j)) && lexHB .any ops D n 0 (Array.replicate ops.size false)

theorem wp_region_calm_head (B n g : Nat) (D : Array Bool) {P : Program} {id : Nat} {Q : Exit → Act → World → Prop} {a : Act} {w : World} {l : List Oper} (hm : P.follows .mixedOrders = true) (hB : headAllB l.toArray n D = true) (hg : l.length = n + g)
    (h : wpQuiet P l.toArray (fun w' => ∃ m : CalmW B w, w' = m.val) (fun a' => ∀ w', (∃ m : CalmW B w, w' = m.val) → wpAny P .any l.toArray Q g D a' w') (l.take n) a) : (Code.region id l.toArray true).wp P Q a w := by
  unfold headAllB at hB
  rw [Bool.and_eq_true, Bool.and_eq_true, Bool.and_eq_true, Bool.and_eq_true] at hB
  obtain ⟨⟨⟨⟨hsel, hn0⟩, hs⟩, hr⟩, hx⟩ := hB
  have hn : n ≤ l.toArray.size := of_decide_eq_true hn0
  have hn2 : n ≤ l.length := by simpa using hn
  have ht : (l.take n).length = n := by rw [List.length_take]; omega
  have inv0 : HeadInv .any l.toArray n (Array.replicate l.toArray.size false) :=
    ⟨by simp, fun j oj _ hl => absurd hl (by rw [getD_replicate_false]; exact Bool.false_ne_true), fun t _ h2 => getD_in (by simpa using h2) (getD_replicate_false _ _)⟩
  have H := headQ_lex2 (P := P) (C := fun w' => ∃ m : CalmW B w, w' = m.val) (md := .any) (D := D) hs hsel (fun j hj => of_decide_eq_true (List.all_eq_true.1 hr j hj)) (l.take n) 0 _ a (by omega)
    (fun j hj => by rw [List.getElem?_take_of_lt (by omega)]; simp) inv0 (by rw [ht]; exact hx) h
  refine wp_region_any hm ?_
  have H2 := headQ_any (g := g) (Q := Q) (fun d a' w' hw hL => by
    rw [hL.1]; exact hL.2 w' hw) (l.take n).length _ a { w with drawn := w.drawn + 1 } ⟨⟨_, (Below.refl B w).drew⟩, rfl⟩ H
  rw [ht, show n + g = l.toArray.size by simp; omega] at H2
  exact H2
end Go.Proofs.Ytclhdgolcaacbaa
