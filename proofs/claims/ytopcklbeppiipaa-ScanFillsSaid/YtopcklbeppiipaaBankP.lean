/- Plain laws of banks. -/
import Derived.Test.YtopcklbeppiipaaStates
import Derived.Test.YtopcklbeppiipaaRecMath
import Derived.Test.YtopcklbeppiipaaFull
namespace Go.Proofs.Ytopcklbeppiipaa
open Go.RowKit
set_option linter.unusedVariables false
set_option linter.unusedSimpArgs false

theorem slotS_nat (s : ByteArray) (j : Nat) (h : j < placeN s) : slotS s (j : Int) = place s j := by
  unfold slotS; rw [if_pos (by omega), Int.toNat_natCast]
theorem slotS_none (s : ByteArray) (i : Int) (h : i < 0 ∨ (placeN s : Int) ≤ i) : slotS s i = ⟨#[]⟩ := by
  unfold slotS; rw [if_neg (by omega)]

theorem statesL_length (s : ByteArray) : (statesL s).length = placeN s - 1 := by
  unfold statesL statesP ups
  rw [List.take_of_length_le (by simp), List.length_map]
  generalize placeN s = n
  cases n with
  | zero => rfl
  | succ m => rw [List.finRange_succ, List.filter_cons_of_neg (by simp), List.filter_map, List.filter_eq_self.2 (by simp)]; simp
theorem statesL_get (s : ByteArray) (j : Nat) (h : j + 1 < placeN s) : (statesL s)[j]? = some (stateS s ((j : Int) + 1)) := by
  have hs : stateS s ((j : Int) + 1) = stateP (((j + 1 : Nat)) : Int) (place s (j + 1)) := by
    unfold stateS
    have := slotS_nat s (j + 1) h
    rw [show ((j + 1 : Nat) : Int) = (j : Int) + 1 by omega] at this ⊢
    rw [this]
  rw [hs]
  unfold statesL statesP ups
  rw [List.take_of_length_le (by simp)]
  revert h
  generalize hg : (fun (j : Nat) => stateP (j : Int) (place s j)) = g
  have e : ∀ (n : Nat), ((List.finRange n).filter (fun j => decide (0 < j.1))).map (fun j => stateP (j.1 : Int) (place s j.1)) = ((List.finRange n).filter (fun j => decide (0 < j.1))).map (fun j => g j.1) := fun n => by rw [← hg]
  rw [e, show stateP (((j + 1 : Nat)) : Int) (place s (j + 1)) = g (j + 1) by rw [← hg]]
  generalize placeN s = n
  intro h
  cases n with
  | zero => omega
  | succ m =>
    rw [List.finRange_succ, List.filter_cons_of_neg (by simp), List.filter_map]
    rw [List.map_map, List.getElem?_map, List.filter_eq_self.2 (by simp), List.getElem?_eq_getElem (by simp; omega)]
    simp

theorem OwnsI.form {w : World} {base : Nat} {v : Value} {l : List Int} (h : OwnsI w base v l) (hl : 0 < l.length) :
    ∃ g cap, v = .slice (some ⟨g, 0, none⟩) l.length cap ∧ base ≤ g ∧ g < w.heap.size ∧ ∀ (j : Nat) (n : Int), l[j]? = some n → w.cell? ⟨g, j, none⟩ = some (.int .i64 n) := by
  have h' := h
  obtain ⟨h1, h2⟩ := h
  rcases h2 with ⟨rfl, h0⟩ | ⟨g, cap, cur, rfl, hg, hh, r⟩
  · omega
  · refine ⟨g, cap, rfl, hg, (Array.getElem?_eq_some_iff.1 hh).1, fun j n hj => ?_⟩
    have hlt : j < l.length := (List.getElem?_eq_some_iff.1 hj).1
    rw [World.ownsRow.cellAt h' j (by omega)]
    unfold icells
    rw [List.getElem?_map, hj]
    rfl
theorem OwnsI.nil {w : World} {base : Nat} {v : Value} {l : List Int} (h : OwnsI w base v l) : ∃ p c, v = .slice p l.length c := by
  obtain ⟨h1, h2⟩ := h
  rcases h2 with ⟨rfl, h0⟩ | ⟨g, cap, cur, rfl, hg, hh, r⟩
  · exact ⟨_, _, by rw [h0]⟩
  · exact ⟨_, _, rfl⟩

theorem full_ext (n a b : Nat) (h : b ≤ n) : (fullB n).extract a b = fullB (b - a) := by
  apply ByteArray.ext
  apply Array.ext'
  unfold fullB
  rw [ByteArray.data_extract, Array.toList_extract, List.extract_eq_take_drop]
  simp [List.drop_replicate, List.take_replicate]
  omega
theorem dec_full : dec (fullB 24) = (0, 0, 0, 5) := by decide +kernel
theorem dec_empty : dec ⟨#[]⟩ = (0, 0, 0, 1) := by decide +kernel
theorem stateP_full (i : Int) : stateP i (fullB 24) = 0 := by unfold stateP decE; rw [dec_full]; rfl
theorem stateP_empty (i : Int) : stateP i ⟨#[]⟩ = 1 := by unfold stateP decE; rw [dec_empty]; rw [if_neg (by decide), if_pos (.inl (by decide))]

/-- a bank of k slots, made of what lies ahead of the place i, the place, and what lies behind it -/
structure Made (X A T C : ByteArray) (i k : Nat) : Prop where
  eq : X = A ++ T ++ C
  ha : A.size = 24 * i
  ht : T.size = 24
  hc : C.size = 24 * (k - i)
  hi : i ≤ k
  h1 : 1 ≤ k
  h12 : k ≤ 12
theorem Made.size {X A T C : ByteArray} {i k : Nat} (h : Made X A T C i k) : X.size = 24 * (k + 1) := by
  rw [h.eq, ByteArray.size_append, ByteArray.size_append, h.ha, h.ht, h.hc]; have := h.hi; omega
theorem Made.placeN {X A T C : ByteArray} {i k : Nat} (h : Made X A T C i k) : placeN X = k + 1 := by
  have := h.size
  have h1 := h.h1
  have h12 := h.h12
  unfold Go.Proofs.Ytopcklbeppiipaa.placeN
  rw [if_pos (by omega)]; omega
theorem ext_app_left (X Y : ByteArray) (a b : Nat) (h : b ≤ X.size) : (X ++ Y).extract a b = X.extract a b := by
  have e1 : X.data.toList.length = X.size := by simp
  apply ByteArray.ext
  apply Array.ext'
  rw [ByteArray.data_extract, ByteArray.data_append, Array.toList_extract, Array.toList_append, List.extract_eq_take_drop, ByteArray.data_extract, Array.toList_extract, List.extract_eq_take_drop]
  by_cases hab : a ≤ b
  · rw [List.drop_append_of_le_length (by omega), List.take_append_of_le_length (by rw [List.length_drop]; omega)]
  · rw [show b - a = 0 by omega]; simp
theorem ext_app_right (X Y : ByteArray) (a b : Nat) (h : X.size ≤ a) : (X ++ Y).extract a b = Y.extract (a - X.size) (b - X.size) := by
  have e1 : X.data.toList.length = X.size := by simp
  apply ByteArray.ext
  apply Array.ext'
  rw [ByteArray.data_extract, ByteArray.data_append, Array.toList_extract, Array.toList_append, List.extract_eq_take_drop, ByteArray.data_extract, Array.toList_extract, List.extract_eq_take_drop]
  rw [List.drop_append, List.drop_eq_nil_of_le (by omega), List.nil_append, e1, show b - a = b - X.size - (a - X.size) by omega]
theorem ext_all (X : ByteArray) (n : Nat) (h : X.size = n) : X.extract 0 n = X := by subst h; simp
theorem Made.at {X A T C : ByteArray} {i k : Nat} (h : Made X A T C i k) : place X i = T := by
  unfold place
  rw [h.eq, ext_app_left _ _ _ _ (by rw [ByteArray.size_append, h.ha, h.ht]; omega), ext_app_right _ _ _ _ (by rw [h.ha]; omega), h.ha, show 24 * i - 24 * i = 0 by omega, show 24 * i + 24 - 24 * i = 24 by omega, ext_all _ _ h.ht]
theorem Made.ahead {X A T C : ByteArray} {i k : Nat} (h : Made X A T C i k) (j : Nat) (hj : j < i) : place X j = A.extract (24 * j) (24 * j + 24) := by
  unfold place
  rw [h.eq, ByteArray.append_assoc, ext_app_left _ _ _ _ (by rw [h.ha]; omega)]
theorem Made.behind {X A T C : ByteArray} {i k : Nat} (h : Made X A T C i k) (j : Nat) (hj : i < j) : place X j = C.extract (24 * (j - i - 1)) (24 * (j - i - 1) + 24) := by
  unfold place
  have hz : (A ++ T).size = 24 * i + 24 := by rw [ByteArray.size_append, h.ha, h.ht]
  rw [h.eq, ext_app_right _ _ _ _ (by omega), hz, show 24 * j - (24 * i + 24) = 24 * (j - i - 1) by omega, show 24 * j + 24 - (24 * i + 24) = 24 * (j - i - 1) + 24 by omega]
end Go.Proofs.Ytopcklbeppiipaa
