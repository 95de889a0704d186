/- Contracts and plain laws, put together: CalmTail, CalmHead, Wild, Chain. -/
import Derived.StillTail
import Derived.Test.YtebkeocpojlepaaGreatDoorG03
/- A region that draws its order, whose first n operations only read or call (callees make memory, nothing below block B is changed), and whose last ones stand in one order behind them: the first ones are walked once, the last ones as a list. -/
namespace Go.Proofs.YtebkeocpojlepaaGreatDoor
open Go.RowKit

section
variable {P : Program} {ops : Array Oper} {md : Region.Mode} {C : World → Prop}

/-- the first operations, in whatever order, each quiet in the class; then L -/
def headQ (P : Program) (md : Region.Mode) (ops : Array Oper) (C : World → Prop) (n : Nat) (L : Array Bool → Act → Prop) : Nat → Array Bool → Act → Prop
  | 0, d, a => L d a
  | f + 1, d, a => Region.ready md ops d ≠ [] ∧ ∀ i, i ∈ Region.ready md ops d → i < n ∧ qOp P ops C i (headQ P md ops C n L f (d.setIfInBounds i true)) a

theorem headQ_any {n g : Nat} {L : Array Bool → Act → Prop} {Q : Exit → Act → World → Prop} (hL : ∀ d a w, C w → L d a → wpAny P md ops Q g d a w) :
    ∀ (f : Nat) (d : Array Bool) (a : Act) (w : World), C w → headQ P md ops C n L f d a → wpAny P md ops Q (f + g) d a w := by
  intro f
  induction f with
  | zero => intro d a w hw h; rw [Nat.zero_add]; exact hL d a w hw h
  | succ f ih =>
    intro d a w hw h
    rw [Nat.succ_add]
    refine ⟨fun h0 => absurd h0 h.1, fun i hi => ?_⟩
    exact wpOp_of_qOp hw (fun a' w' hw' hh => ih _ a' w' hw' hh) (h.2 i hi).2

/-- an operation that may come now may come first -/
theorem headQ_first {n i : Nat} {oi : Oper} {v : Value} {L : Array Bool → Act → Prop} (hs : Region.sinkB md ops n = true) (hc : Region.chainB md ops n = true) (hn : n < ops.size) (hsel : Region.noSelect ops = true)
    (hi : ops[i]? = some oi) (hin : i < n) (hL : ∀ d a, L d a → ∀ j, j ∈ Region.ready md ops d → n ≤ j) (f : Nat) :
    ∀ (d : Array Bool) (a : Act), HeadInv md ops n d → i ∈ Region.ready md ops d →
      (∀ j oj, ops[j]? = some oj → j ≠ i → d.getD j true = false → (∀ e ∈ oj.after, Region.binds md e = true → e.on ≠ i) → oi.apart ops oj = true) →
      YieldsIn P ops C oi v a → headQ P md ops C n L f (d.setIfInBounds i true) (a.put oi.dst v) → headQ P md ops C n L (f + 1) d a := by
  have hsl := Region.noSelect_spec hsel
  induction f with
  | zero =>
    intro d a inv hr hfree hy H
    refine ⟨List.ne_nil_of_mem hr, fun j hj => ?_⟩
    rcases Decidable.em (j = i) with e | e
    · subst e; exact ⟨hin, hy.qOp hi H⟩
    · exfalso
      have h1 := hL _ _ H j (ready_mono hj e)
      exact tail_waits hs hc hn inv _ i rfl hin (mem_ready.1 hr).1 j h1 hj
  | succ f ih =>
    intro d a inv hr hfree hy H
    refine ⟨List.ne_nil_of_mem hr, fun j hj => ?_⟩
    rcases Decidable.em (j = i) with e | e
    · subst e; exact ⟨hin, hy.qOp hi H⟩
    · have hjn : j < n := by
        rcases Nat.lt_or_ge j n with h | h
        · exact h
        · exact absurd hj (tail_waits hs hc hn inv _ i rfl hin (mem_ready.1 hr).1 j h)
      obtain ⟨hju, oj, hoj, hall⟩ := mem_ready.1 hj
      have hno : ∀ e ∈ oj.after, Region.binds md e = true → e.on ≠ i := by
        intro e1 he hb heq
        have h1 := hall e1 he hb
        rw [heq, getD_both (mem_ready.1 hr).1] at h1
        cases h1
      refine ⟨hjn, ?_⟩
      have h2 := qOp_put hoj (hfree j oj hoj e hju hno) (fun cs b => hsl i oi cs b hi) (fun cs b => hsl j oj cs b hoj) hy (H.2 j (ready_mono hj e)).2
      refine qOp_mono (fun a' h3 => ?_) h2
      refine ih (d.setIfInBounds j true) a' (inv.set hj hjn) (ready_mono hr (Ne.symm e)) ?_ h3.1 (by rw [Array.setIfInBounds_comm _ _ e]; exact h3.2)
      intro k ok hk hki hun hnk
      refine hfree k ok hk hki ?_ hnk
      by_cases hjk : j = k
      · subst hjk; exact hju
      · rwa [getD_set_ne true hjk] at hun

theorem headQ_lex {n g : Nat} {T : Act → Prop} (hs : Region.sinkB md ops n = true) (hc : Region.chainB md ops n = true) (hn : n < ops.size) (hsel : Region.noSelect ops = true) (l : List Oper) :
    ∀ (k : Nat) (d : Array Bool) (a : Act), k + l.length = n → (∀ j, j < l.length → l[j]? = ops[k + j]?) → HeadInv md ops n d → Region.lexHead md ops g l.length k d = true →
      wpQuiet P ops C T l a → headQ P md ops C n (fun d' a' => Region.seqB md ops g n d' = true ∧ T a') l.length d a := by
  induction l with
  | nil =>
    intro k d a hk _ _ hB h
    obtain rfl : k = n := by simpa using hk
    exact ⟨hB, h⟩
  | cons o l ih =>
    intro k d a hk hl inv hB h
    have h0 : ops[k]? = some o := by simpa using (hl 0 (by simp)).symm
    have hB2 : ((Region.ready md ops d).contains k && Region.free md ops d k && Region.lexHead md ops g l.length (k + 1) (d.setIfInBounds k true)) = true := hB
    rw [Bool.and_eq_true, Bool.and_eq_true] at hB2
    have hr : k ∈ Region.ready md ops d := by simpa using hB2.1.1
    have hlen : (o :: l).length = l.length + 1 := rfl
    have hkn : k < n := by omega
    obtain ⟨v, hy, hK⟩ := yieldsIn_of_qOp (P := P) (C := C) h0 (K := wpQuiet P ops C T l) (a := a) (by unfold qOp; rw [h0]; exact h)
    refine headQ_first hs hc hn hsel h0 hkn (fun _ _ hd => seqB_ready hd.1) l.length d a inv hr (Region.free_spec h0 hB2.1.2) hy ?_
    refine ih (k + 1) _ _ (by omega) (fun j hj => ?_) (inv.set hr hkn) hB2.2 hK
    have := hl (j + 1) (by rw [hlen]; omega)
    rw [show k + 1 + j = k + (j + 1) by omega]
    simpa using this
end

theorem wp_region_calm_tail (B n : Nat) {P : Program} {id : Nat} {Q : Exit → Act → World → Prop} {a : Act} {w : World} {l : List Oper} (hm : P.follows .mixedOrders = true) (hB : Region.lexTailB .any l.toArray n = true)
    (h : wpQuiet P l.toArray (fun w' => ∃ m : CalmW B w, w' = m.val) (fun a' => ∀ w', (∃ m : CalmW B w, w' = m.val) → wpList P l.toArray Q (l.drop n) a' w') (l.take n) a) : (Code.region id l.toArray true).wp P Q a w := by
  unfold Region.lexTailB at hB
  rw [Bool.and_eq_true, Bool.and_eq_true, Bool.and_eq_true, Bool.and_eq_true] at hB
  obtain ⟨⟨⟨⟨hsel, hn0⟩, hs⟩, hc⟩, hx⟩ := hB
  have hn : n < l.toArray.size := of_decide_eq_true hn0
  have hn2 : n < l.length := by simpa using hn
  have ht : (l.take n).length = n := by rw [List.length_take]; omega
  have hd : (l.drop n).length = l.toArray.size - n := by simp
  have inv0 : HeadInv .any l.toArray n (Array.replicate l.toArray.size false) :=
    ⟨by simp, fun j oj _ hl => absurd hl (by rw [getD_replicate_false]; exact Bool.false_ne_true), fun t _ h2 => getD_in (by simpa using h2) (getD_replicate_false _ _)⟩
  have H := headQ_lex (P := P) (C := fun w' => ∃ m : CalmW B w, w' = m.val) (md := .any) (g := l.toArray.size - n) hs hc hn hsel (l.take n) 0 _ a (by omega)
    (fun j hj => by rw [List.getElem?_take_of_lt (by omega)]; simp) inv0 (by rw [ht]; exact hx) h
  refine wp_region_any hm ?_
  have H2 := headQ_any (g := l.toArray.size - n) (Q := Q) (fun d a' w' hw hL => by
    have h5 := wpAny_of_seq (P := P) (md := .any) (Q' := Q) (l.drop n) n d a' w' (fun j => by simp [List.getElem?_drop]) (by rw [hd]; exact hL.1) (hL.2 w' hw)
    rwa [hd] at h5) (l.take n).length _ a { w with drawn := w.drawn + 1 } ⟨⟨_, (Below.refl B w).drew⟩, rfl⟩ H
  rw [ht, show n + (l.toArray.size - n) = l.toArray.size by omega] at H2
  exact H2
end Go.Proofs.YtebkeocpojlepaaGreatDoor

/- A region that draws its order, whose first n operations only read or call (callees make memory, nothing below block B is changed), and whose other operations all wait for the n-th: the first ones are walked once; what is left is asked in whatever order it may come. -/
namespace Go.Proofs.YtebkeocpojlepaaGreatDoor
open Go.RowKit

section
variable {P : Program} {ops : Array Oper} {md : Region.Mode} {C : World → Prop}

/-- the operations from n on wait for the one ahead of n, or for one of their own; all ahead of it are waited for -/
def stopB1 (md : Region.Mode) (ops : Array Oper) (n : Nat) : Bool :=
  Region.sinkB md ops (n - 1) && (List.range ops.size).all fun t => decide (t < n) || Region.waitsFor md ops t (n - 1) || (List.range ops.size).any fun j => decide (n ≤ j) && Region.waitsFor md ops t j
/-- the operations from n on wait for all ahead of n, or for one of their own -/
def stopB2 (md : Region.Mode) (ops : Array Oper) (n : Nat) : Bool :=
  (List.range ops.size).all fun t => decide (t < n) || (List.range n).all (fun i => Region.waitsFor md ops t i) || (List.range ops.size).any fun j => decide (n ≤ j) && Region.waitsFor md ops t j
/-- the operations from n on wait for one of their own, or each ahead of n is waited for by it, or by a later one ahead of n -/
def stopB3 (md : Region.Mode) (ops : Array Oper) (n : Nat) : Bool :=
  (List.range ops.size).all fun t => decide (t < n) || ((List.range n).all fun i => Region.waitsFor md ops t i || (List.range n).any fun j => decide (i < j) && Region.waitsFor md ops j i) || (List.range ops.size).any fun j => decide (n ≤ j) && Region.waitsFor md ops t j
def stopB (md : Region.Mode) (ops : Array Oper) (n : Nat) : Bool := stopB1 md ops n || stopB2 md ops n || stopB3 md ops n

theorem last_open {n : Nat} {d : Array Bool} (hs : Region.sinkB md ops (n - 1) = true) (inv : HeadInv md ops n d) :
    ∀ (g i : Nat), n - i = g → i < n → d.getD i false = false → d.getD (n - 1) false = false := by
  intro g
  induction g using Nat.strongRecOn with
  | _ g ih =>
    intro i hg hi hu
    by_cases hl : i = n - 1
    · rw [← hl]; exact hu
    · have h1 := List.all_eq_true.1 hs i (List.mem_range.2 (by omega))
      obtain ⟨j, hj, hj2⟩ := List.any_eq_true.1 h1
      rw [Bool.and_eq_true] at hj2
      have hij : i < j := of_decide_eq_true hj2.1
      have hjn : j < n := by have := List.mem_range.1 hj; omega
      obtain ⟨oj, hoj, e, he, hb, hon⟩ := Region.waitsFor_spec hj2.2
      cases hld : d.getD j false with
      | false => exact ih (n - j) (by omega) j rfl hjn hld
      | true =>
        have h2 := inv.closed j oj hoj hld e he hb
        rw [hon, hu] at h2
        cases h2

theorem tail_stop1 {n : Nat} {d : Array Bool} (hs : stopB1 md ops n = true) (inv : HeadInv md ops n d) {i : Nat} (hi : i < n) (hu : d.getD i true = false) : ∀ t, n ≤ t → t ∉ Region.ready md ops d := by
  intro t ht hr
  unfold stopB1 at hs
  rw [Bool.and_eq_true] at hs
  obtain ⟨_, ot, hot, hall⟩ := mem_ready.1 hr
  have htl : t < ops.size := (Array.getElem?_eq_some_iff.1 hot).1
  have h1 := List.all_eq_true.1 hs.2 t (List.mem_range.2 htl)
  rw [Bool.or_eq_true, Bool.or_eq_true] at h1
  rcases h1 with (h1 | h1) | h1
  · have := of_decide_eq_true h1; omega
  · obtain ⟨o', ho', e, he, hb, hon⟩ := Region.waitsFor_spec h1
    obtain rfl : o' = ot := Option.some.inj (ho'.symm.trans hot)
    have h2 := hall e he hb
    rw [hon, last_open hs.1 inv _ i rfl hi (getD_both hu)] at h2
    cases h2
  · obtain ⟨j, hj, hj2⟩ := List.any_eq_true.1 h1
    rw [Bool.and_eq_true] at hj2
    obtain ⟨o', ho', e, he, hb, hon⟩ := Region.waitsFor_spec hj2.2
    obtain rfl : o' = ot := Option.some.inj (ho'.symm.trans hot)
    have h2 := hall e he hb
    rw [hon, getD_both (inv.tail j (of_decide_eq_true hj2.1) (List.mem_range.1 hj))] at h2
    cases h2

theorem tail_stop3 {n : Nat} {d : Array Bool} (hs : stopB3 md ops n = true) (inv : HeadInv md ops n d) {i : Nat} (hi : i < n) (hu : d.getD i true = false) : ∀ t, n ≤ t → t ∉ Region.ready md ops d := by
  intro t ht hr
  unfold stopB3 at hs
  obtain ⟨_, ot, hot, hall⟩ := mem_ready.1 hr
  have htl : t < ops.size := (Array.getElem?_eq_some_iff.1 hot).1
  have h1 := List.all_eq_true.1 hs t (List.mem_range.2 htl)
  rw [Bool.or_eq_true, Bool.or_eq_true] at h1
  rcases h1 with (h1 | h1) | h1
  · have := of_decide_eq_true h1; omega
  · have key : ∀ (g i : Nat), n - i = g → i < n → d.getD i false = false → False := by
      intro g
      induction g using Nat.strongRecOn with
      | _ g ih =>
        intro i hg hi hu
        have h3 := List.all_eq_true.1 h1 i (List.mem_range.2 hi)
        rw [Bool.or_eq_true] at h3
        rcases h3 with h3 | h3
        · obtain ⟨o', ho', e, he, hb, hon⟩ := Region.waitsFor_spec h3
          obtain rfl : o' = ot := Option.some.inj (ho'.symm.trans hot)
          have h2 := hall e he hb
          rw [hon, hu] at h2
          cases h2
        · obtain ⟨j, hj, hj2⟩ := List.any_eq_true.1 h3
          rw [Bool.and_eq_true] at hj2
          have hij : i < j := of_decide_eq_true hj2.1
          have hjn : j < n := List.mem_range.1 hj
          obtain ⟨oj, hoj, e, he, hb, hon⟩ := Region.waitsFor_spec hj2.2
          cases hld : d.getD j false with
          | false => exact ih (n - j) (by omega) j rfl hjn hld
          | true =>
            have h2 := inv.closed j oj hoj hld e he hb
            rw [hon, hu] at h2
            cases h2
    exact key _ i rfl hi (getD_both hu)
  · obtain ⟨j, hj, hj2⟩ := List.any_eq_true.1 h1
    rw [Bool.and_eq_true] at hj2
    obtain ⟨o', ho', e, he, hb, hon⟩ := Region.waitsFor_spec hj2.2
    obtain rfl : o' = ot := Option.some.inj (ho'.symm.trans hot)
    have h2 := hall e he hb
    rw [hon, getD_both (inv.tail j (of_decide_eq_true hj2.1) (List.mem_range.1 hj))] at h2
    cases h2

theorem tail_stop {n : Nat} {d : Array Bool} (hs : stopB md ops n = true) (inv : HeadInv md ops n d) {i : Nat} (hi : i < n) (hu : d.getD i true = false) : ∀ t, n ≤ t → t ∉ Region.ready md ops d := by
  unfold stopB at hs
  rw [Bool.or_eq_true, Bool.or_eq_true] at hs
  rcases hs with (hs | hs) | hs
  · exact tail_stop1 hs inv hi hu
  rotate_left
  · exact tail_stop3 hs inv hi hu
  intro t ht hr
  unfold stopB2 at hs
  obtain ⟨_, ot, hot, hall⟩ := mem_ready.1 hr
  have htl : t < ops.size := (Array.getElem?_eq_some_iff.1 hot).1
  have h1 := List.all_eq_true.1 hs t (List.mem_range.2 htl)
  rw [Bool.or_eq_true, Bool.or_eq_true] at h1
  rcases h1 with (h1 | h1) | h1
  · have := of_decide_eq_true h1; omega
  · obtain ⟨o', ho', e, he, hb, hon⟩ := Region.waitsFor_spec (List.all_eq_true.1 h1 i (List.mem_range.2 hi))
    obtain rfl : o' = ot := Option.some.inj (ho'.symm.trans hot)
    have h2 := hall e he hb
    rw [hon, getD_both hu] at h2
    cases h2
  · obtain ⟨j, hj, hj2⟩ := List.any_eq_true.1 h1
    rw [Bool.and_eq_true] at hj2
    obtain ⟨o', ho', e, he, hb, hon⟩ := Region.waitsFor_spec hj2.2
    obtain rfl : o' = ot := Option.some.inj (ho'.symm.trans hot)
    have h2 := hall e he hb
    rw [hon, getD_both (inv.tail j (of_decide_eq_true hj2.1) (List.mem_range.1 hj))] at h2
    cases h2

theorem headQ_first2 {n i : Nat} {oi : Oper} {v : Value} {L : Array Bool → Act → Prop} (hs : stopB md ops n = true) (hsel : Region.noSelect ops = true)
    (hi : ops[i]? = some oi) (hin : i < n) (hL : ∀ d a, L d a → ∀ j, j ∈ Region.ready md ops d → n ≤ j) (f : Nat) :
    ∀ (d : Array Bool) (a : Act), HeadInv md ops n d → i ∈ Region.ready md ops d →
      (∀ j oj, ops[j]? = some oj → j ≠ i → d.getD j true = false → (∀ e ∈ oj.after, Region.binds md e = true → e.on ≠ i) → oi.apart ops oj = true) →
      YieldsIn P ops C oi v a → headQ P md ops C n L f (d.setIfInBounds i true) (a.put oi.dst v) → headQ P md ops C n L (f + 1) d a := by
  have hsl := Region.noSelect_spec hsel
  induction f with
  | zero =>
    intro d a inv hr hfree hy H
    refine ⟨List.ne_nil_of_mem hr, fun j hj => ?_⟩
    rcases Decidable.em (j = i) with e | e
    · subst e; exact ⟨hin, hy.qOp hi H⟩
    · exact absurd hj (tail_stop hs inv hin (mem_ready.1 hr).1 j (hL _ _ H j (ready_mono hj e)))
  | succ f ih =>
    intro d a inv hr hfree hy H
    refine ⟨List.ne_nil_of_mem hr, fun j hj => ?_⟩
    rcases Decidable.em (j = i) with e | e
    · subst e; exact ⟨hin, hy.qOp hi H⟩
    · have hjn : j < n := by
        rcases Nat.lt_or_ge j n with h | h
        · exact h
        · exact absurd hj (tail_stop hs inv hin (mem_ready.1 hr).1 j h)
      obtain ⟨hju, oj, hoj, hall⟩ := mem_ready.1 hj
      have hno : ∀ e ∈ oj.after, Region.binds md e = true → e.on ≠ i := by
        intro e1 he hb heq
        have h1 := hall e1 he hb
        rw [heq, getD_both (mem_ready.1 hr).1] at h1
        cases h1
      refine ⟨hjn, ?_⟩
      have h2 := qOp_put hoj (hfree j oj hoj e hju hno) (fun cs b => hsl i oi cs b hi) (fun cs b => hsl j oj cs b hoj) hy (H.2 j (ready_mono hj e)).2
      refine qOp_mono (fun a' h3 => ?_) h2
      refine ih (d.setIfInBounds j true) a' (inv.set hj hjn) (ready_mono hr (Ne.symm e)) ?_ h3.1 (by rw [Array.setIfInBounds_comm _ _ e]; exact h3.2)
      intro k ok hk hki hun hnk
      refine hfree k ok hk hki ?_ hnk
      by_cases hjk : j = k
      · subst hjk; exact hju
      · rwa [getD_set_ne true hjk] at hun

/-- the first ones may come in the order of the text, and each may be taken first; D: which ones have come then -/
def lexHB (md : Region.Mode) (ops : Array Oper) (D : Array Bool) : Nat → Nat → Array Bool → Bool
  | 0, _, d => d == D
  | f + 1, k, d => (Region.ready md ops d).contains k && Region.free md ops d k && lexHB md ops D f (k + 1) (d.setIfInBounds k true)

theorem headQ_lex2 {n : Nat} {D : Array Bool} {T : Act → Prop} (hs : stopB md ops n = true) (hsel : Region.noSelect ops = true) (hD : ∀ j, j ∈ Region.ready md ops D → n ≤ j) (l : List Oper) :
    ∀ (k : Nat) (d : Array Bool) (a : Act), k + l.length = n → (∀ j, j < l.length → l[j]? = ops[k + j]?) → HeadInv md ops n d → lexHB md ops D l.length k d = true →
      wpQuiet P ops C T l a → headQ P md ops C n (fun d' a' => d' = D ∧ T a') l.length d a := by
  induction l with
  | nil =>
    intro k d a hk _ _ hB h
    exact ⟨eq_of_beq hB, h⟩
  | cons o l ih =>
    intro k d a hk hl inv hB h
    have h0 : ops[k]? = some o := by simpa using (hl 0 (by simp)).symm
    have hB2 : ((Region.ready md ops d).contains k && Region.free md ops d k && lexHB md ops D l.length (k + 1) (d.setIfInBounds k true)) = true := hB
    rw [Bool.and_eq_true, Bool.and_eq_true] at hB2
    have hr : k ∈ Region.ready md ops d := by simpa using hB2.1.1
    have hlen : (o :: l).length = l.length + 1 := rfl
    have hkn : k < n := by omega
    obtain ⟨v, hy, hK⟩ := yieldsIn_of_qOp (P := P) (C := C) h0 (K := wpQuiet P ops C T l) (a := a) (by unfold qOp; rw [h0]; exact h)
    refine headQ_first2 hs hsel h0 hkn (fun d' _ hd => by rw [hd.1]; exact hD) l.length d a inv hr (Region.free_spec h0 hB2.1.2) hy ?_
    refine ih (k + 1) _ _ (by omega) (fun j hj => ?_) (inv.set hr hkn) hB2.2 hK
    have := hl (j + 1) (by rw [hlen]; omega)
    rw [show k + 1 + j = k + (j + 1) by omega]
    simpa using this
end

def headAllB (ops : Array Oper) (n : Nat) (D : Array Bool) : Bool :=
  Region.noSelect ops && decide (n ≤ ops.size) && stopB .any ops n && (Region.ready .any ops D).all (fun j => decide (n ≤ j)) && lexHB .any ops D n 0 (Array.replicate ops.size false)

theorem wp_region_calm_head (B n g : Nat) (D : Array Bool) {P : Program} {id : Nat} {Q : Exit → Act → World → Prop} {a : Act} {w : World} {l : List Oper} (hm : P.follows .mixedOrders = true) (hB : headAllB l.toArray n D = true) (hg : l.length = n + g)
    (h : wpQuiet P l.toArray (fun w' => ∃ m : CalmW B w, w' = m.val) (fun a' => ∀ w', (∃ m : CalmW B w, w' = m.val) → wpAny P .any l.toArray Q g D a' w') (l.take n) a) : (Code.region id l.toArray true).wp P Q a w := by
  unfold headAllB at hB
  rw [Bool.and_eq_true, Bool.and_eq_true, Bool.and_eq_true, Bool.and_eq_true] at hB
  obtain ⟨⟨⟨⟨hsel, hn0⟩, hs⟩, hr⟩, hx⟩ := hB
  have hn : n ≤ l.toArray.size := of_decide_eq_true hn0
  have hn2 : n ≤ l.length := by simpa using hn
  have ht : (l.take n).length = n := by rw [List.length_take]; omega
  have inv0 : HeadInv .any l.toArray n (Array.replicate l.toArray.size false) :=
    ⟨by simp, fun j oj _ hl => absurd hl (by rw [getD_replicate_false]; exact Bool.false_ne_true), fun t _ h2 => getD_in (by simpa using h2) (getD_replicate_false _ _)⟩
  have H := headQ_lex2 (P := P) (C := fun w' => ∃ m : CalmW B w, w' = m.val) (md := .any) (D := D) hs hsel (fun j hj => of_decide_eq_true (List.all_eq_true.1 hr j hj)) (l.take n) 0 _ a (by omega)
    (fun j hj => by rw [List.getElem?_take_of_lt (by omega)]; simp) inv0 (by rw [ht]; exact hx) h
  refine wp_region_any hm ?_
  have H2 := headQ_any (g := g) (Q := Q) (fun d a' w' hw hL => by
    rw [hL.1]; exact hL.2 w' hw) (l.take n).length _ a { w with drawn := w.drawn + 1 } ⟨⟨_, (Below.refl B w).drew⟩, rfl⟩ H
  rw [ht, show n + g = l.toArray.size by simp; omega] at H2
  exact H2
end Go.Proofs.YtebkeocpojlepaaGreatDoor

/- A region that draws its order: some operations are quiet (reads, calls that make memory and change nothing below block B), ONE makes memory whose place depends on when it comes (an alloc, a slice that is built), some read what that one made. The quiet ones are walked once, then that one, then those behind it. -/
namespace Go.Proofs.YtebkeocpojlepaaGreatDoor
open Go.RowKit

/-- a world below B as W was, with a property -/
structure CalmX (B : Nat) (W : World) (X : World → Prop) where
  val : World
  below : Below B W val
  has : X val
abbrev ClX (B : Nat) (W : World) (X : World → Prop) : World → Prop := fun w' => ∃ m : CalmX B W X, w' = m.val
def Stable (X : World → Prop) : Prop := ∀ w w', X w → Below w.heap.size w w' → X w'
theorem stable_true : Stable fun _ => True := fun _ _ _ _ => trivial

theorem calmX_of {P : Program} {f : FuncId} {args : Array Value} {B : Nat} {w : World} {X : World → Prop} {n : CalmX B w X} {v : Value} (hS : Stable X) (hB : B ≤ w.heap.size)
    (h : Calls P f args n.val fun e w' => e = .returned v ∧ Below n.val.heap.size n.val w') : Calls P f args n.val fun e w'' => e = .returned v ∧ ∃ m : CalmX B w X, w'' = m.val :=
  h.mono fun _ w' ⟨he, hb⟩ => ⟨he, ⟨w', n.below.trans (hb.mono (Nat.le_trans hB n.below.size)), hS _ _ n.has hb⟩, rfl⟩

section
variable {P : Program} {ops : Array Oper} {md : Region.Mode}

theorem yields_put {C : World → Prop} {oi oj : Oper} {v u : Value} {a : Act} (hi : ∀ cs b, oi.op ≠ .select cs b) (h : ∀ d, oj.dst = some d → d ∉ oi.looksAt ops) (hy : YieldsIn P ops C oi v a) : YieldsIn P ops C oi v (a.put oj.dst u) :=
  hy.of_same (execOp_put oi hi a oj.dst u h) (wanted_put oi a oj.dst u h)
theorem yields_unput {C : World → Prop} {oi oj : Oper} {v u : Value} {a : Act} (hi : ∀ cs b, oi.op ≠ .select cs b) (h : ∀ d, oj.dst = some d → d ∉ oi.looksAt ops) (hy : YieldsIn P ops C oi v (a.put oj.dst u)) : YieldsIn P ops C oi v a :=
  hy.of_same (execOp_put oi hi a oj.dst u h).symm (wanted_put oi a oj.dst u h).symm

/-- what the one makes -/
def WildAt (P : Program) (ops : Array Oper) (B : Nat) (W : World) (ox : Oper) (Φ : Value → World → Prop) (a : Act) : Prop :=
  Region.wanted ox (yielded ops a.tmps) = true ∧ ∀ w, Below B W w → ∃ v w', (execOp a.eval ox).run P w = .ok (.value v) w' ∧ Below w.heap.size w w' ∧ Φ v w'

def wildQ (P : Program) (md : Region.Mode) (ops : Array Oper) (B : Nat) (W : World) (n x : Nat) (ox : Oper) (Φ : Value → World → Prop) (L : Value → Array Bool → Act → Prop) : Nat → Array Bool → Act → Prop
  | 0, _, _ => False
  | f + 1, d, a => Region.ready md ops d ≠ [] ∧ ∀ i, i ∈ Region.ready md ops d → i < n ∧
      ((i = x ∧ WildAt P ops B W ox Φ a ∧ ∀ v, (∃ w', ClX B W (Φ v) w') → headQ P md ops (ClX B W (Φ v)) n (L v) f (d.setIfInBounds x true) (a.put ox.dst v)) ∨
       (i ≠ x ∧ qOp P ops (ClX B W fun _ => True) i (wildQ P md ops B W n x ox Φ L f (d.setIfInBounds i true)) a))

theorem wildQ_any {B n x g : Nat} {W : World} {ox : Oper} {Φ : Value → World → Prop} {L : Value → Array Bool → Act → Prop} {Q : Exit → Act → World → Prop} (hBW : B ≤ W.heap.size) (hx : ops[x]? = some ox)
    (hL : ∀ v d a w, ClX B W (Φ v) w → L v d a → wpAny P md ops Q g d a w) :
    ∀ (f : Nat) (d : Array Bool) (a : Act) (w : World), ClX B W (fun _ => True) w → wildQ P md ops B W n x ox Φ L f d a → wpAny P md ops Q (f + g) d a w := by
  intro f
  induction f with
  | zero => intro d a w _ h; exact h.elim
  | succ f ih =>
    intro d a w hw h
    rw [Nat.succ_add]
    refine ⟨fun h0 => absurd h0 h.1, fun i hi => ?_⟩
    rcases (h.2 i hi).2 with ⟨rfl, ⟨hwd, hrun⟩, hk⟩ | ⟨_, hq⟩
    · obtain ⟨m, rfl⟩ := hw
      obtain ⟨v, w', hr, hb, hP⟩ := hrun m.val m.below
      unfold wpOp
      rw [hx]
      simp only [hwd, if_true]
      refine .inl ?_
      unfold Oper.wp
      rw [hr]
      simp only [Oper.upon]
      have hcl : ClX B W (Φ v) w' := ⟨⟨w', m.below.trans (hb.mono (Nat.le_trans hBW m.below.size)), hP⟩, rfl⟩
      exact headQ_any (C := ClX B W (Φ v)) (hL v) f _ _ w' hcl (hk v ⟨w', hcl⟩)
    · exact wpOp_of_qOp hw (fun a' w' hw' hh => ih _ a' w' hw' hh) hq

theorem wildQ_first {B n x i : Nat} {W : World} {ox oi : Oper} {v : Value} {Φ : Value → World → Prop} {L : Value → Array Bool → Act → Prop} (hS : ∀ v, Stable (Φ v)) (hs : stopB md ops n = true) (hsel : Region.noSelect ops = true)
    (hx : ops[x]? = some ox) (hxn : x < n) (hi : ops[i]? = some oi) (hin : i < n) (hix : i ≠ x) (hL : ∀ v d a, L v d a → ∀ j, j ∈ Region.ready md ops d → n ≤ j) (f : Nat) :
    ∀ (d : Array Bool) (a : Act), HeadInv md ops n d → d.getD x true = false → i ∈ Region.ready md ops d →
      (∀ j oj, ops[j]? = some oj → j ≠ i → d.getD j true = false → (∀ e ∈ oj.after, Region.binds md e = true → e.on ≠ i) → oi.apart ops oj = true) →
      (∀ X, Stable X → (∃ w', ClX B W X w') → YieldsIn P ops (ClX B W X) oi v a) → wildQ P md ops B W n x ox Φ L f (d.setIfInBounds i true) (a.put oi.dst v) → wildQ P md ops B W n x ox Φ L (f + 1) d a := by
  have hsl := Region.noSelect_spec hsel
  have hsi := fun cs b => hsl i oi cs b hi
  induction f with
  | zero => intro d a _ _ _ _ _ H; exact H.elim
  | succ f ih =>
    intro d a inv hxu hr hfree hy H
    refine ⟨List.ne_nil_of_mem hr, fun j hj => ?_⟩
    rcases Decidable.em (j = i) with e | e
    · subst e; exact ⟨hin, .inr ⟨hix, (hy _ stable_true ⟨W, ⟨W, Below.refl _ _, trivial⟩, rfl⟩).qOp hi H⟩⟩
    · have hjn : j < n := by
        rcases Nat.lt_or_ge j n with h | h
        · exact h
        · exact absurd hj (tail_stop hs inv hin (mem_ready.1 hr).1 j h)
      obtain ⟨hju, oj, hoj, hall⟩ := mem_ready.1 hj
      have hno : ∀ e ∈ oj.after, Region.binds md e = true → e.on ≠ i := by
        intro e1 he hb heq
        have h1 := hall e1 he hb
        rw [heq, getD_both (mem_ready.1 hr).1] at h1
        cases h1
      obtain ⟨a1, a2, a3⟩ := Oper.apart_spec (hfree j oj hoj e hju hno)
      have hsj := fun cs b => hsl j oj cs b hoj
      have hfr : ∀ k ok, ops[k]? = some ok → k ≠ i → (d.setIfInBounds j true).getD k true = false → (∀ e ∈ ok.after, Region.binds md e = true → e.on ≠ i) → oi.apart ops ok = true := by
        intro k ok hk hki hun hnk
        refine hfree k ok hk hki ?_ hnk
        by_cases hjk : j = k
        · subst hjk; exact hju
        · rwa [getD_set_ne true hjk] at hun
      refine ⟨hjn, ?_⟩
      rcases (H.2 j (ready_mono hj e)).2 with ⟨rfl, ⟨hwd, hrun⟩, hk⟩ | ⟨hjx, hq⟩
      · obtain rfl : oj = ox := Option.some.inj (hoj.symm.trans hx)
        refine .inl ⟨rfl, ⟨?_, ?_⟩, fun v' hv' => ?_⟩
        · rw [wanted_put oj a oi.dst v a1] at hwd; exact hwd
        · rw [execOp_put oj hsj a oi.dst v a1] at hrun; exact hrun
        · refine headQ_first2 hs hsel hi hin (hL v') f (d.setIfInBounds j true) (a.put oj.dst v') (inv.set hj hjn) (ready_mono hr (Ne.symm e)) hfr (yields_put hsi a3 (hy _ (hS v') hv')) ?_
          rw [Array.setIfInBounds_comm _ _ e, ← Act.put_comm a v v' a2]
          exact hk v' hv'
      · refine .inr ⟨hjx, ?_⟩
        obtain ⟨u, hyu, hK⟩ := yieldsIn_of_qOp hoj hq
        refine (yields_unput hsj a1 hyu).qOp hoj ?_
        refine ih (d.setIfInBounds j true) (a.put oj.dst u) (inv.set hj hjn) (by rw [getD_set_ne true hjx]; exact hxu) (ready_mono hr (Ne.symm e)) hfr (fun X hX hN => yields_put hsi a3 (hy X hX hN)) ?_
        rw [Array.setIfInBounds_comm _ _ e, ← Act.put_comm a v u a2]
        exact hK

/-- some of the operations, in the order of the text -/
def keepM : List Bool → List Oper → List Oper
  | true :: m, o :: l => o :: keepM m l
  | false :: m, _ :: l => keepM m l
  | _, _ => []
def cntM : List Bool → Nat
  | [] => 0
  | true :: m => cntM m + 1
  | false :: m => cntM m
/-- those of the mask may come in the order of the text, from number k on; D: which ones have come then -/
def lexM (md : Region.Mode) (ops : Array Oper) (n x : Nat) (D : Array Bool) : List Bool → Nat → Array Bool → Bool
  | [], _, d => d == D
  | true :: m, k, d => (Region.ready md ops d).contains k && Region.free md ops d k && decide (k < n) && decide (k ≠ x) && lexM md ops n x D m (k + 1) (d.setIfInBounds k true)
  | false :: m, k, d => lexM md ops n x D m (k + 1) d
/-- each has a slot of its own -/
def ownB : List Oper → Bool
  | [] => true
  | o :: l => (match o.dst with | some t => l.all fun p => decide (p.dst ≠ some t) | none => false) && ownB l

theorem put_get (a : Act) (t : Tmp) (v : Value) (h : t < a.tmps.size) : (a.put (some t) v).tmps[t]? = some v := by simp [Act.put, h]
theorem put_get_ne (a : Act) {t u : Tmp} (v : Value) (h : u ≠ t) : (a.put (some u) v).tmps[t]? = a.tmps[t]? := by simp [Act.put, Array.getElem?_setIfInBounds_ne h]
theorem put_size (a : Act) (o : Option Tmp) (v : Value) : (a.put o v).tmps.size = a.tmps.size := by cases o <;> simp [Act.put]

theorem quiet_final {C : World → Prop} {A : Act} (t : Tmp) (l : List Oper) : ∀ a, (∀ p ∈ l, p.dst ≠ some t) → wpQuiet P ops C (fun a' => a' = A) l a → A.tmps[t]? = a.tmps[t]? := by
  induction l with
  | nil => intro a _ h; have : a = A := h; rw [this]
  | cons o l ih =>
    intro a hp h
    have key : ∃ v, wpQuiet P ops C (fun a' => a' = A) l (a.put o.dst v) := by
      unfold wpQuiet at h
      split at h
      · obtain ⟨v, _, h⟩ := h; exact ⟨v, h⟩
      · exact ⟨_, h⟩
    obtain ⟨v, hv⟩ := key
    rw [ih _ (fun p hp' => hp p (List.mem_cons_of_mem _ hp')) hv]
    have hd := hp o (List.mem_cons_self ..)
    cases hdo : o.dst with
    | none => rfl
    | some u => exact put_get_ne a v (fun e => hd (by rw [hdo, e]))

theorem headM_lex {C : World → Prop} {n x : Nat} {D : Array Bool} {T : Act → Prop} (hs : stopB md ops n = true) (hsel : Region.noSelect ops = true) (hD : ∀ j, j ∈ Region.ready md ops D → n ≤ j) (l : List Oper) :
    ∀ (m : List Bool) (k : Nat) (d : Array Bool) (a : Act), m.length = l.length → (∀ j, j < l.length → l[j]? = ops[k + j]?) → HeadInv md ops n d → lexM md ops n x D m k d = true →
      wpQuiet P ops C T (keepM m l) a → headQ P md ops C n (fun d' a' => d' = D ∧ T a') (cntM m) d a := by
  induction l with
  | nil =>
    intro m k d a hm _ _ hB h
    obtain rfl : m = [] := List.length_eq_zero_iff.1 (by simpa using hm)
    exact ⟨eq_of_beq hB, h⟩
  | cons o l ih =>
    intro m k d a hm hl inv hB h
    have h0 : ops[k]? = some o := by simpa using (hl 0 (by simp)).symm
    have hl2 : ∀ j, j < l.length → l[j]? = ops[k + 1 + j]? := by
      intro j hj
      have := hl (j + 1) (by simp; omega)
      rw [show k + 1 + j = k + (j + 1) by omega]
      simpa using this
    match m, hm with
    | false :: m, hm => exact ih m (k + 1) d a (by simpa using hm) hl2 inv hB h
    | true :: m, hm =>
      have hB2 : ((Region.ready md ops d).contains k && Region.free md ops d k && decide (k < n) && decide (k ≠ x) && lexM md ops n x D m (k + 1) (d.setIfInBounds k true)) = true := hB
      rw [Bool.and_eq_true, Bool.and_eq_true, Bool.and_eq_true, Bool.and_eq_true] at hB2
      obtain ⟨⟨⟨⟨hr0, hf⟩, hkn0⟩, _⟩, hB3⟩ := hB2
      have hr : k ∈ Region.ready md ops d := by simpa using hr0
      have hkn : k < n := of_decide_eq_true hkn0
      obtain ⟨v, hy, hK⟩ := yieldsIn_of_qOp (P := P) (C := C) h0 (K := wpQuiet P ops C T (keepM m l)) (a := a) (by unfold qOp; rw [h0]; exact h)
      exact headQ_first2 hs hsel h0 hkn (fun d' _ hd => by rw [hd.1]; exact hD) (cntM m) d a inv hr (Region.free_spec h0 hf) hy
        (ih m (k + 1) _ _ (by simpa using hm) hl2 (inv.set hr hkn) hB3 hK)

theorem wildM_lex {B n x f : Nat} {W : World} {ox : Oper} {Φ : Value → World → Prop} {L : Value → Array Bool → Act → Prop} {D : Array Bool} {A : Act} (hS : ∀ v, Stable (Φ v)) (hs : stopB md ops n = true) (hsel : Region.noSelect ops = true)
    (hx : ops[x]? = some ox) (hxn : x < n) (hL : ∀ v d a, L v d a → ∀ j, j ∈ Region.ready md ops d → n ≤ j) (l : List Oper) :
    ∀ (m : List Bool) (k : Nat) (d : Array Bool) (a : Act), m.length = l.length → (∀ j, j < l.length → l[j]? = ops[k + j]?) → HeadInv md ops n d → d.getD x true = false → lexM md ops n x D m k d = true →
      ownB (keepM m l) = true → (∀ p ∈ keepM m l, ∀ t, p.dst = some t → t < a.tmps.size) →
      (∀ X, Stable X → (∃ w', ClX B W X w') → wpQuiet P ops (ClX B W X) (fun a' => a' = A) (keepM m l) a) → (HeadInv md ops n D → wildQ P md ops B W n x ox Φ L (f + 1) D A) → wildQ P md ops B W n x ox Φ L (cntM m + (f + 1)) d a := by
  induction l with
  | nil =>
    intro m k d a hm _ inv _ hB _ _ h hN
    obtain rfl : m = [] := List.length_eq_zero_iff.1 (by simpa using hm)
    have e1 : d = D := eq_of_beq hB
    have e2 : a = A := h _ stable_true ⟨W, ⟨W, Below.refl _ _, trivial⟩, rfl⟩
    subst e1 e2
    rw [show cntM [] + (f + 1) = f + 1 by simp [cntM]]
    exact hN inv
  | cons o l ih =>
    intro m k d a hm hl inv hxu hB hown hsz h hN
    have h0 : ops[k]? = some o := by simpa using (hl 0 (by simp)).symm
    have hl2 : ∀ j, j < l.length → l[j]? = ops[k + 1 + j]? := by
      intro j hj
      have := hl (j + 1) (by simp; omega)
      rw [show k + 1 + j = k + (j + 1) by omega]
      simpa using this
    match m, hm with
    | false :: m, hm => exact ih m (k + 1) d a (by simpa using hm) hl2 inv hxu hB hown hsz h hN
    | true :: m, hm =>
      have hB2 : ((Region.ready md ops d).contains k && Region.free md ops d k && decide (k < n) && decide (k ≠ x) && lexM md ops n x D m (k + 1) (d.setIfInBounds k true)) = true := hB
      rw [Bool.and_eq_true, Bool.and_eq_true, Bool.and_eq_true, Bool.and_eq_true] at hB2
      obtain ⟨⟨⟨⟨hr0, hf⟩, hkn0⟩, hkx0⟩, hB3⟩ := hB2
      have hr : k ∈ Region.ready md ops d := by simpa using hr0
      have hkn : k < n := of_decide_eq_true hkn0
      have hkx : k ≠ x := of_decide_eq_true hkx0
      have hown2 : ((match o.dst with | some t => (keepM m l).all fun p => decide (p.dst ≠ some t) | none => false) && ownB (keepM m l)) = true := hown
      rw [Bool.and_eq_true] at hown2
      obtain ⟨t, ht⟩ : ∃ t, o.dst = some t := by
        cases hd : o.dst with
        | none => rw [hd] at hown2; exact absurd hown2.1 (by simp)
        | some t => exact ⟨t, rfl⟩
      have hfresh : ∀ p ∈ keepM m l, p.dst ≠ some t := by
        have := hown2.1
        rw [ht] at this
        intro p hp
        exact of_decide_eq_true (List.all_eq_true.1 this p hp)
      have htz : t < a.tmps.size := hsz o (List.mem_cons_self ..) t ht
      have hall : ∀ X, Stable X → (∃ w', ClX B W X w') → YieldsIn P ops (ClX B W X) o (A.tmps.getD t undef) a ∧ wpQuiet P ops (ClX B W X) (fun a' => a' = A) (keepM m l) (a.put o.dst (A.tmps.getD t undef)) := by
        intro X hX hNX
        obtain ⟨v, hy, hK⟩ := yieldsIn_of_qOp (P := P) (C := ClX B W X) h0 (K := wpQuiet P ops (ClX B W X) (fun a' => a' = A) (keepM m l)) (a := a) (by unfold qOp; rw [h0]; exact h X hX hNX)
        have e := quiet_final t (keepM m l) _ hfresh hK
        rw [ht, put_get a t v htz] at e
        have e2 : A.tmps.getD t undef = v := by rw [Array.getD_eq_getD_getElem?, e]; rfl
        rw [e2]
        exact ⟨hy, hK⟩
      rw [show cntM (true :: m) + (f + 1) = (cntM m + (f + 1)) + 1 by simp [cntM]; omega]
      exact wildQ_first hS hs hsel hx hxn h0 hkn hkx hL (cntM m + (f + 1)) d a inv hxu hr (Region.free_spec h0 hf) (fun X hX hNX => (hall X hX hNX).1)
        (ih m (k + 1) _ _ (by simpa using hm) hl2 (inv.set hr hkn) (by rw [getD_set_ne true hkx]; exact hxu) hB3 hown2.2 (fun p hp u hu => by rw [put_size]; exact hsz p (List.mem_cons_of_mem _ hp) u hu) (fun X hX hNX => (hall X hX hNX).2) hN)
end

def wildB (l : List Oper) (n x : Nat) (m1 m2 : List Bool) (D1 D2 : Array Bool) : Bool :=
  Region.noSelect l.toArray && decide (n ≤ l.length) && decide (x < n) && stopB .any l.toArray n && (Region.ready .any l.toArray D2).all (fun j => decide (n ≤ j)) && decide (m1.length = l.length) && decide (m2.length = l.length) &&
  lexM .any l.toArray n x D1 m1 0 (Array.replicate l.length false) && lexM .any l.toArray n x D2 m2 0 (D1.setIfInBounds x true) && decide (Region.ready .any l.toArray D1 = [x]) && ownB (keepM m1 l) && decide (D1.getD x true = false)

theorem wp_region_wild (B n g x : Nat) (m1 m2 : List Bool) (D1 D2 : Array Bool) {P : Program} {id : Nat} {Q : Exit → Act → World → Prop} {a : Act} {W : World} {l : List Oper} {ox : Oper} (Φ : Value → World → Prop) (hm : P.follows .mixedOrders = true)
    (hB : wildB l n x m1 m2 D1 D2 = true) (hg : l.length = cntM m1 + cntM m2 + 1 + g) (hBW : B ≤ W.heap.size) (hx : l[x]? = some ox) (hS : ∀ v, Stable (Φ v)) (hsz : (keepM m1 l).all (fun p => match p.dst with | some t => decide (t < a.tmps.size) | none => true) = true)
    (h : ∃ A : Act, (∀ X, Stable X → Nonempty (CalmX B W X) → wpQuiet P l.toArray (fun w' => ∃ m : CalmX B W X, w' = m.val) (fun a' => a' = A) (keepM m1 l) a) ∧ WildAt P l.toArray B W ox Φ A ∧
      ∀ v, Nonempty (CalmX B W (Φ v)) → wpQuiet P l.toArray (fun w' => ∃ m : CalmX B W (Φ v), w' = m.val) (fun a' => ∀ w', (∃ m : CalmX B W (Φ v), w' = m.val) → wpAny P .any l.toArray Q g D2 a' w') (keepM m2 l) (A.put ox.dst v)) : (Code.region id l.toArray true).wp P Q a W := by
  obtain ⟨A, h1, hw, h2⟩ := h
  unfold wildB at hB
  simp only [Bool.and_eq_true] at hB
  obtain ⟨⟨⟨⟨⟨⟨⟨⟨⟨⟨⟨hsel, hn0⟩, hxn0⟩, hs⟩, hr0⟩, hm1⟩, hm2⟩, hl1⟩, hl2⟩, hrx⟩, hown⟩, hxd⟩ := hB
  have hn : n ≤ l.length := of_decide_eq_true hn0
  have hxn : x < n := of_decide_eq_true hxn0
  have hops : ∀ j, j < l.length → l[j]? = (l.toArray)[0 + j]? := fun j _ => by simp
  have hxo : (l.toArray)[x]? = some ox := by simpa using hx
  have hLr : ∀ (v : Value) (d : Array Bool) (a' : Act), (d = D2 ∧ ∀ w', ClX B W (Φ v) w' → wpAny P .any l.toArray Q g D2 a' w') → ∀ j, j ∈ Region.ready .any l.toArray d → n ≤ j := fun v d a' hd j hj => by
    rw [hd.1] at hj; exact of_decide_eq_true (List.all_eq_true.1 hr0 j hj)
  have inv0 : HeadInv .any l.toArray n (Array.replicate l.length false) :=
    ⟨by simp, fun j oj _ hl => absurd hl (by rw [getD_replicate_false]; exact Bool.false_ne_true), fun t _ h2 => getD_in (by simpa using h2) (getD_replicate_false _ _)⟩
  have hrx' : Region.ready .any l.toArray D1 = [x] := of_decide_eq_true hrx
  refine wp_region_any hm ?_
  have hsz2 : ∀ p ∈ keepM m1 l, ∀ t, p.dst = some t → t < a.tmps.size := by
    intro p hp t ht
    have := List.all_eq_true.1 hsz p hp
    rw [ht] at this
    exact of_decide_eq_true this
  have H := wildM_lex (P := P) (md := .any) (B := B) (W := W) (f := cntM m2) (L := fun v d a' => d = D2 ∧ ∀ w', ClX B W (Φ v) w' → wpAny P .any l.toArray Q g D2 a' w') (A := A) hS hs hsel hxo hxn hLr l m1 0 _ a (of_decide_eq_true hm1) hops inv0
    (getD_in (by simp; omega) (getD_replicate_false _ _)) hl1 hown hsz2 (fun X hX hN => h1 X hX (by obtain ⟨_, m, _⟩ := hN; exact ⟨m⟩)) (fun invD => by
      refine ⟨by rw [hrx']; simp, fun i hi => ?_⟩
      rw [hrx'] at hi
      obtain rfl : i = x := by simpa using hi
      refine ⟨hxn, .inl ⟨rfl, hw, fun v hv => ?_⟩⟩
      exact headM_lex (x := i) hs hsel (fun j hj => of_decide_eq_true (List.all_eq_true.1 hr0 j hj)) l m2 0 _ _ (of_decide_eq_true hm2) hops (invD.set (by rw [hrx']; simp) hxn) hl2 (h2 v (by obtain ⟨_, m, _⟩ := hv; exact ⟨m⟩)))
  have H2 := wildQ_any (g := g) (Q := Q) hBW hxo (fun v d a' w' hw' hL => by rw [hL.1]; exact hL.2 w' hw') _ _ a { W with drawn := W.drawn + 1 } ⟨⟨_, (Below.refl B W).drew, trivial⟩, rfl⟩ H
  rw [show cntM m1 + (cntM m2 + 1) + g = l.toArray.size by simp; omega] at H2
  simpa using H2
end Go.Proofs.YtebkeocpojlepaaGreatDoor

/- A region that draws its order: quiet operations, ONE that makes memory whose place moves, and, always behind that, ONE store into it; other quiet ones may come behind the store. Walked once. (Over XWild.) -/
namespace Go.Proofs.YtebkeocpojlepaaGreatDoor
open Go.RowKit

section
variable {P : Program} {ops : Array Oper} {md : Region.Mode}

/-- an operation that leads from one class of worlds into another -/
def MovesAt (P : Program) (ops : Array Oper) (C0 : World → Prop) (ox : Oper) (C1 : Value → World → Prop) (a : Act) : Prop :=
  Region.wanted ox (yielded ops a.tmps) = true ∧ ∀ w, C0 w → ∃ v w', ((execOp a.eval ox).run P w = .ok (.value v) w' ∨ (v = undef ∧ (execOp a.eval ox).run P w = .ok .skip w')) ∧ C1 v w'

def genQ (P : Program) (md : Region.Mode) (ops : Array Oper) (C0 : World → Prop) (n x : Nat) (ox : Oper) (C1 : Value → World → Prop) (N : Value → Nat → Array Bool → Act → Prop) : Nat → Array Bool → Act → Prop
  | 0, _, _ => False
  | f + 1, d, a => Region.ready md ops d ≠ [] ∧ ∀ i, i ∈ Region.ready md ops d → i < n ∧
      ((i = x ∧ MovesAt P ops C0 ox C1 a ∧ ∀ v, (∃ w', C1 v w') → N v f (d.setIfInBounds x true) (a.put ox.dst v)) ∨
       (i ≠ x ∧ qOp P ops C0 i (genQ P md ops C0 n x ox C1 N f (d.setIfInBounds i true)) a))

theorem genQ_any {n x g : Nat} {C0 : World → Prop} {ox : Oper} {C1 : Value → World → Prop} {N : Value → Nat → Array Bool → Act → Prop} {Q : Exit → Act → World → Prop} (hx : ops[x]? = some ox)
    (hN : ∀ v f d a w, C1 v w → N v f d a → wpAny P md ops Q (f + g) d a w) :
    ∀ (f : Nat) (d : Array Bool) (a : Act) (w : World), C0 w → genQ P md ops C0 n x ox C1 N f d a → wpAny P md ops Q (f + g) d a w := by
  intro f
  induction f with
  | zero => intro d a w _ h; exact h.elim
  | succ f ih =>
    intro d a w hw h
    rw [Nat.succ_add]
    refine ⟨fun h0 => absurd h0 h.1, fun i hi => ?_⟩
    rcases (h.2 i hi).2 with ⟨rfl, ⟨hwd, hrun⟩, hk⟩ | ⟨_, hq⟩
    · obtain ⟨v, w', hr, hP⟩ := hrun w hw
      unfold wpOp
      rw [hx]
      simp only [hwd, if_true]
      refine .inl ?_
      unfold Oper.wp
      rcases hr with hr | ⟨rfl, hr⟩
      · rw [hr]; simp only [Oper.upon]; exact hN v f _ _ w' hP (hk v ⟨w', hP⟩)
      · rw [hr]; simp only [Oper.upon]; exact hN undef f _ _ w' hP (hk undef ⟨w', hP⟩)
    · exact wpOp_of_qOp hw (fun a' w' hw' hh => ih _ a' w' hw' hh) hq

/-- what makes operation i free to come first -/
def FreeAt (md : Region.Mode) (ops : Array Oper) (d : Array Bool) (i : Nat) (oi : Oper) : Prop :=
  ∀ j oj, ops[j]? = some oj → j ≠ i → d.getD j true = false → (∀ e ∈ oj.after, Region.binds md e = true → e.on ≠ i) → oi.apart ops oj = true

/-- operation i is quiet in every class -/
def QuietAt (P : Program) (ops : Array Oper) (B : Nat) (W : World) (oi : Oper) (u : Value) (a : Act) : Prop := ∀ X, Stable X → (∃ w', ClX B W X w') → YieldsIn P ops (ClX B W X) oi u a

theorem genQ_first {B n x i : Nat} {W : World} {C0 : World → Prop} {X0 : World → Prop} (hC0 : C0 = ClX B W X0) (hX0 : Stable X0) (hne0 : ∃ w', ClX B W X0 w') {ox oi : Oper} {u : Value} {C1 : Value → World → Prop} {N : Value → Nat → Array Bool → Act → Prop} (hs : stopB md ops n = true) (hsel : Region.noSelect ops = true)
    (hx : ops[x]? = some ox) (hi : ops[i]? = some oi) (hin : i < n) (hix : i ≠ x)
    (hN : ∀ v f d a, (∃ w', C1 v w') → HeadInv md ops n d → i ∈ Region.ready md ops d → FreeAt md ops d i oi → QuietAt P ops B W oi u a → N v f (d.setIfInBounds i true) (a.put oi.dst u) → N v (f + 1) d a) (f : Nat) :
    ∀ (d : Array Bool) (a : Act), HeadInv md ops n d → i ∈ Region.ready md ops d → FreeAt md ops d i oi → QuietAt P ops B W oi u a →
      genQ P md ops C0 n x ox C1 N f (d.setIfInBounds i true) (a.put oi.dst u) → genQ P md ops C0 n x ox C1 N (f + 1) d a := by
  have hsl := Region.noSelect_spec hsel
  have hsi := fun cs b => hsl i oi cs b hi
  induction f with
  | zero => intro d a _ _ _ _ H; exact H.elim
  | succ f ih =>
    intro d a inv hr hfree hy H
    refine ⟨List.ne_nil_of_mem hr, fun j hj => ?_⟩
    rcases Decidable.em (j = i) with e | e
    · subst e; exact ⟨hin, .inr ⟨hix, by have h := hy X0 hX0 hne0; rw [← hC0] at h; exact h.qOp hi H⟩⟩
    · have hjn : j < n := by
        rcases Nat.lt_or_ge j n with h | h
        · exact h
        · exact absurd hj (tail_stop hs inv hin (mem_ready.1 hr).1 j h)
      obtain ⟨hju, oj, hoj, hall⟩ := mem_ready.1 hj
      have hno : ∀ e ∈ oj.after, Region.binds md e = true → e.on ≠ i := by
        intro e1 he hb heq
        have h1 := hall e1 he hb
        rw [heq, getD_both (mem_ready.1 hr).1] at h1
        cases h1
      obtain ⟨a1, a2, a3⟩ := Oper.apart_spec (hfree j oj hoj e hju hno)
      have hsj := fun cs b => hsl j oj cs b hoj
      have hfr : FreeAt md ops (d.setIfInBounds j true) i oi := by
        intro k ok hk hki hun hnk
        refine hfree k ok hk hki ?_ hnk
        by_cases hjk : j = k
        · subst hjk; exact hju
        · rwa [getD_set_ne true hjk] at hun
      refine ⟨hjn, ?_⟩
      rcases (H.2 j (ready_mono hj e)).2 with ⟨rfl, ⟨hwd, hrun⟩, hk⟩ | ⟨hjx, hq⟩
      · obtain rfl : oj = ox := Option.some.inj (hoj.symm.trans hx)
        refine .inl ⟨rfl, ⟨?_, ?_⟩, fun v' hv' => ?_⟩
        · rw [wanted_put oj a oi.dst u a1] at hwd; exact hwd
        · rw [execOp_put oj hsj a oi.dst u a1] at hrun; exact hrun
        · refine hN v' f (d.setIfInBounds j true) (a.put oj.dst v') hv' (inv.set hj hjn) (ready_mono hr (Ne.symm e)) hfr (fun X hX hN => yields_put hsi a3 (hy X hX hN)) ?_
          rw [Array.setIfInBounds_comm _ _ e, ← Act.put_comm a u v' a2]
          exact hk v' hv'
      · refine .inr ⟨hjx, ?_⟩
        obtain ⟨t, hyt, hK⟩ := yieldsIn_of_qOp hoj hq
        refine (yields_unput hsj a1 hyt).qOp hoj ?_
        refine ih (d.setIfInBounds j true) (a.put oj.dst t) (inv.set hj hjn) (ready_mono hr (Ne.symm e)) hfr (fun X hX hN => yields_put hsi a3 (hy X hX hN)) ?_
        rw [Array.setIfInBounds_comm _ _ e, ← Act.put_comm a u t a2]
        exact hK

/-- those of the mask may come in the order of the text; none of them is number x or y -/
def lexM2 (md : Region.Mode) (ops : Array Oper) (n x y : Nat) (D : Array Bool) : List Bool → Nat → Array Bool → Bool
  | [], _, d => d == D
  | true :: m, k, d => (Region.ready md ops d).contains k && Region.free md ops d k && decide (k < n) && decide (k ≠ x) && decide (k ≠ y) && lexM2 md ops n x y D m (k + 1) (d.setIfInBounds k true)
  | false :: m, k, d => lexM2 md ops n x y D m (k + 1) d

theorem genM_lex {B n x y f : Nat} {W : World} {C0 : World → Prop} {X0 : World → Prop} {ox : Oper} {C1 : Value → World → Prop} {N : Value → Nat → Array Bool → Act → Prop} {D : Array Bool} {A : Act} (hs : stopB md ops n = true) (hsel : Region.noSelect ops = true)
    (hC0 : C0 = ClX B W X0) (hX0 : Stable X0) (hne0 : ∃ w', ClX B W X0 w') (hx : ops[x]? = some ox)
    (hN : ∀ (i : Nat) (oi : Oper) (u : Value), ops[i]? = some oi → i < n → i ≠ y → ∀ v f d a, (∃ w', C1 v w') → HeadInv md ops n d → i ∈ Region.ready md ops d → FreeAt md ops d i oi →
      QuietAt P ops B W oi u a → N v f (d.setIfInBounds i true) (a.put oi.dst u) → N v (f + 1) d a) (l : List Oper) :
    ∀ (m : List Bool) (k : Nat) (d : Array Bool) (a : Act), m.length = l.length → (∀ j, j < l.length → l[j]? = ops[k + j]?) → HeadInv md ops n d → lexM2 md ops n x y D m k d = true →
      ownB (keepM m l) = true → (∀ p ∈ keepM m l, ∀ t, p.dst = some t → t < a.tmps.size) →
      (∀ X, Stable X → (∃ w', ClX B W X w') → wpQuiet P ops (ClX B W X) (fun a' => a' = A) (keepM m l) a) → (HeadInv md ops n D → genQ P md ops C0 n x ox C1 N (f + 1) D A) → genQ P md ops C0 n x ox C1 N (cntM m + (f + 1)) d a := by
  induction l with
  | nil =>
    intro m k d a hm _ inv hB _ _ h hNx
    obtain rfl : m = [] := List.length_eq_zero_iff.1 (by simpa using hm)
    have e1 : d = D := eq_of_beq hB
    have e2 : a = A := h _ hX0 hne0
    subst e1 e2
    rw [show cntM [] + (f + 1) = f + 1 by simp [cntM]]
    exact hNx inv
  | cons o l ih =>
    intro m k d a hm hl inv hB hown hsz h hNx
    have h0 : ops[k]? = some o := by simpa using (hl 0 (by simp)).symm
    have hl2 : ∀ j, j < l.length → l[j]? = ops[k + 1 + j]? := by
      intro j hj
      have := hl (j + 1) (by simp; omega)
      rw [show k + 1 + j = k + (j + 1) by omega]
      simpa using this
    match m, hm with
    | false :: m, hm => exact ih m (k + 1) d a (by simpa using hm) hl2 inv hB hown hsz h hNx
    | true :: m, hm =>
      have hB2 : ((Region.ready md ops d).contains k && Region.free md ops d k && decide (k < n) && decide (k ≠ x) && decide (k ≠ y) && lexM2 md ops n x y D m (k + 1) (d.setIfInBounds k true)) = true := hB
      rw [Bool.and_eq_true, Bool.and_eq_true, Bool.and_eq_true, Bool.and_eq_true, Bool.and_eq_true] at hB2
      obtain ⟨⟨⟨⟨⟨hr0, hf⟩, hkn0⟩, hkx0⟩, hky0⟩, hB3⟩ := hB2
      have hr : k ∈ Region.ready md ops d := by simpa using hr0
      have hkn : k < n := of_decide_eq_true hkn0
      have hkx : k ≠ x := of_decide_eq_true hkx0
      have hky : k ≠ y := of_decide_eq_true hky0
      have hown2 : ((match o.dst with | some t => (keepM m l).all fun p => decide (p.dst ≠ some t) | none => false) && ownB (keepM m l)) = true := hown
      rw [Bool.and_eq_true] at hown2
      obtain ⟨t, ht⟩ : ∃ t, o.dst = some t := by
        cases hd : o.dst with
        | none => rw [hd] at hown2; exact absurd hown2.1 (by simp)
        | some t => exact ⟨t, rfl⟩
      have hfresh : ∀ p ∈ keepM m l, p.dst ≠ some t := by
        have := hown2.1
        rw [ht] at this
        intro p hp
        exact of_decide_eq_true (List.all_eq_true.1 this p hp)
      have htz : t < a.tmps.size := hsz o (List.mem_cons_self ..) t ht
      have hall : ∀ X, Stable X → (∃ w', ClX B W X w') → YieldsIn P ops (ClX B W X) o (A.tmps.getD t undef) a ∧ wpQuiet P ops (ClX B W X) (fun a' => a' = A) (keepM m l) (a.put o.dst (A.tmps.getD t undef)) := by
        intro X hX hNX
        obtain ⟨v, hy, hK⟩ := yieldsIn_of_qOp (P := P) (C := ClX B W X) h0 (K := wpQuiet P ops (ClX B W X) (fun a' => a' = A) (keepM m l)) (a := a) (by unfold qOp; rw [h0]; exact h X hX hNX)
        have e := quiet_final t (keepM m l) _ hfresh hK
        rw [ht, put_get a t v htz] at e
        have e2 : A.tmps.getD t undef = v := by rw [Array.getD_eq_getD_getElem?, e]; rfl
        rw [e2]
        exact ⟨hy, hK⟩
      rw [show cntM (true :: m) + (f + 1) = (cntM m + (f + 1)) + 1 by simp [cntM]; omega]
      have hfa : FreeAt md ops d k o := Region.free_spec h0 hf
      exact genQ_first hC0 hX0 hne0 hs hsel hx h0 hkn hkx (hN k o _ h0 hkn hky) (cntM m + (f + 1)) d a inv hr hfa (fun X hX hNX => (hall X hX hNX).1)
        (ih m (k + 1) _ _ (by simpa using hm) hl2 (inv.set hr hkn) hB3 hown2.2 (fun p hp u hu => by rw [put_size]; exact hsz p (List.mem_cons_of_mem _ hp) u hu) (fun X hX hNX => (hall X hX hNX).2) hNx)
end

def chainB (l : List Oper) (x y : Nat) (m1 m3 : List Bool) (D1 D3 : Array Bool) : Bool :=
  Region.noSelect l.toArray && decide (x < l.length) && decide (y < l.length) && stopB .any l.toArray l.length && decide (Region.ready .any l.toArray D3 = []) && decide (m1.length = l.length) && decide (m3.length = l.length) &&
  lexM2 .any l.toArray l.length x y D1 m1 0 (Array.replicate l.length false) && lexM .any l.toArray l.length x D3 m3 0 ((D1.setIfInBounds x true).setIfInBounds y true) && decide (Region.ready .any l.toArray D1 = [x]) && decide (Region.ready .any l.toArray (D1.setIfInBounds x true) = [y]) && ownB (keepM m1 l)

theorem wp_region_chain (B x y : Nat) (m1 m3 : List Bool) (D1 D3 : Array Bool) {P : Program} {id : Nat} {Q : Exit → Act → World → Prop} {a : Act} {W : World} {l : List Oper} {ox oy : Oper} (Φ Ψ : Value → World → Prop) (hm : P.follows .mixedOrders = true)
    (hB : chainB l x y m1 m3 D1 D3 = true) (hg : l.length = cntM m1 + (cntM m3 + 2)) (hBW : B ≤ W.heap.size) (hx : l[x]? = some ox) (hy : l[y]? = some oy) (hS : ∀ v, Stable (Φ v)) (hT : ∀ v, Stable (Ψ v)) (hsz : (keepM m1 l).all (fun p => match p.dst with | some t => decide (t < a.tmps.size) | none => true) = true)
    (h : ∃ A : Act, (∀ X, Stable X → Nonempty (CalmX B W X) → wpQuiet P l.toArray (fun w' => ∃ m : CalmX B W X, w' = m.val) (fun a' => a' = A) (keepM m1 l) a) ∧ WildAt P l.toArray B W ox Φ A ∧
      ∀ v, Nonempty (CalmX B W (Φ v)) → MovesAt P l.toArray (ClX B W (Φ v)) oy (fun _ => ClX B W (Ψ v)) (A.put ox.dst v) ∧
        ∀ u, Nonempty (CalmX B W (Ψ v)) → wpQuiet P l.toArray (fun w' => ∃ m : CalmX B W (Ψ v), w' = m.val) (fun a' => ∀ w', (∃ m : CalmX B W (Ψ v), w' = m.val) → Q .normal a' w') (keepM m3 l) ((A.put ox.dst v).put oy.dst u)) : (Code.region id l.toArray true).wp P Q a W := by
  obtain ⟨A, h1, hw, h2⟩ := h
  unfold chainB at hB
  simp only [Bool.and_eq_true] at hB
  obtain ⟨⟨⟨⟨⟨⟨⟨⟨⟨⟨⟨hsel, hxn0⟩, hyn0⟩, hs⟩, hr3⟩, hm1⟩, hm3⟩, hl1⟩, hl3⟩, hrx⟩, hry⟩, hown⟩ := hB
  have hxn : x < l.length := of_decide_eq_true hxn0
  have hyn : y < l.length := of_decide_eq_true hyn0
  have hops : ∀ j, j < l.length → l[j]? = (l.toArray)[0 + j]? := fun j _ => by simp
  have hxo : (l.toArray)[x]? = some ox := by simpa using hx
  have hyo : (l.toArray)[y]? = some oy := by simpa using hy
  have hr3' : Region.ready .any l.toArray D3 = [] := of_decide_eq_true hr3
  have hrx' : Region.ready .any l.toArray D1 = [x] := of_decide_eq_true hrx
  have hry' : Region.ready .any l.toArray (D1.setIfInBounds x true) = [y] := of_decide_eq_true hry
  have inv0 : HeadInv .any l.toArray l.length (Array.replicate l.length false) :=
    ⟨by simp, fun j oj _ hl => absurd hl (by rw [getD_replicate_false]; exact Bool.false_ne_true), fun t _ h2 => getD_in (by simpa using h2) (getD_replicate_false _ _)⟩
  refine wp_region_any hm ?_
  have hsz2 : ∀ p ∈ keepM m1 l, ∀ t, p.dst = some t → t < a.tmps.size := by
    intro p hp t ht
    have := List.all_eq_true.1 hsz p hp
    rw [ht] at this
    exact of_decide_eq_true this
  -- what is left behind the store
  let L : Value → Array Bool → Act → Prop := fun v d a' => d = D3 ∧ ∀ w', ClX B W (Ψ v) w' → Q .normal a' w'
  have hLr : ∀ (v : Value) (d : Array Bool) (a' : Act), L v d a' → ∀ j, j ∈ Region.ready .any l.toArray d → l.length ≤ j := fun v d a' hd j hj => by rw [hd.1, hr3'] at hj; cases hj
  let N : Value → Nat → Array Bool → Act → Prop := fun v f d a' => genQ P .any l.toArray (ClX B W (Φ v)) l.length y oy (fun _ => ClX B W (Ψ v)) (fun _ f' d' a'' => headQ P .any l.toArray (ClX B W (Ψ v)) l.length (L v) f' d' a'') f d a'
  have hNone : ∀ (v : Value) (f : Nat) (d : Array Bool) (a' : Act) (w : World), ClX B W (Φ v) w → N v f d a' → wpAny P .any l.toArray Q (f + 0) d a' w := fun v f d a' w hw hN =>
    genQ_any (g := 0) (Q := Q) hyo (fun _ f' d' a'' w' hw' hh => headQ_any (g := 0) (Q := Q) (C := ClX B W (Ψ v)) (fun d2 a2 w2 hw2 hL => by rw [hL.1]; exact wpAny_done hr3' (hL.2 w2 hw2) _) f' d' a'' w' hw' hh) f d a' w hw hN
  have hNfirst : ∀ (i : Nat) (oi : Oper) (u : Value), (l.toArray)[i]? = some oi → i < l.length → i ≠ y → ∀ v f d a', (∃ w', ClX B W (Φ v) w') → HeadInv .any l.toArray l.length d → i ∈ Region.ready .any l.toArray d → FreeAt .any l.toArray d i oi →
      QuietAt P l.toArray B W oi u a' → N v f (d.setIfInBounds i true) (a'.put oi.dst u) → N v (f + 1) d a' := fun i oi u hi hin hiy v f d a' hne inv hr hf hq hh =>
    genQ_first (X0 := Φ v) rfl (hS v) hne hs hsel hyo hi hin hiy
      (fun _ f' d' a'' hne' inv' hr' hf' hq' hh' => headQ_first2 hs hsel hi hin (hLr v) f' d' a'' inv' hr' hf' (hq' (Ψ v) (hT v) hne') hh') f d a' inv hr hf hq hh
  have H := genM_lex (P := P) (md := .any) (B := B) (W := W) (C0 := ClX B W fun _ => True) (C1 := fun v => ClX B W (Φ v)) (N := N) (f := cntM m3 + 1) (A := A) hs hsel rfl stable_true ⟨W, ⟨W, Below.refl _ _, trivial⟩, rfl⟩ hxo hNfirst l m1 0 _ a (of_decide_eq_true hm1) hops inv0 hl1 hown hsz2
    (fun X hX hN => h1 X hX (by obtain ⟨_, m, _⟩ := hN; exact ⟨m⟩)) (fun invD => by
      refine ⟨by rw [hrx']; simp, fun i hi => ?_⟩
      rw [hrx'] at hi
      obtain rfl : i = x := by simpa using hi
      refine ⟨hxn, .inl ⟨rfl, ⟨hw.1, fun w0 hw0 => ?_⟩, fun v hv => ?_⟩⟩
      · obtain ⟨m, rfl⟩ := hw0
        obtain ⟨v, w', hr, hb, hP⟩ := hw.2 m.val m.below
        exact ⟨v, w', .inl hr, ⟨⟨w', m.below.trans (hb.mono (Nat.le_trans hBW m.below.size)), hP⟩, rfl⟩⟩
      · have hvN : Nonempty (CalmX B W (Φ v)) := by obtain ⟨_, m, _⟩ := hv; exact ⟨m⟩
        obtain ⟨hmv, h3⟩ := h2 v hvN
        have inv1 := invD.set (i := i) (by rw [hrx']; simp) hxn
        show genQ P .any l.toArray (ClX B W (Φ v)) l.length y oy (fun _ => ClX B W (Ψ v)) _ (cntM m3 + 1) _ _
        refine ⟨by rw [hry']; simp, fun j hj => ?_⟩
        rw [hry'] at hj
        obtain rfl : j = y := by simpa using hj
        refine ⟨hyn, .inl ⟨rfl, hmv, fun u hu => ?_⟩⟩
        exact headM_lex (x := i) hs hsel (fun k hk => by rw [hr3'] at hk; cases hk) l m3 0 _ _ (of_decide_eq_true hm3) hops (inv1.set (by rw [hry']; simp) hyn) hl3
          (h3 u (by obtain ⟨_, m, _⟩ := hu; exact ⟨m⟩)))
  have H2 := genQ_any (g := 0) (Q := Q) hxo (fun v f d a' w' hw' hN => hNone v f d a' w' hw' hN) _ _ a { W with drawn := W.drawn + 1 } ⟨⟨_, (Below.refl B W).drew, trivial⟩, rfl⟩ H
  rw [show cntM m1 + (cntM m3 + 1 + 1) + 0 = l.toArray.size by simp; omega] at H2
  simpa using H2
end Go.Proofs.YtebkeocpojlepaaGreatDoor
