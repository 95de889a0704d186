/- bank.state, State, Record, Generation. -/
import Derived.Test.YtopcklbeppiipaaNth
namespace Go.Proofs.Ytopcklbeppiipaa
open Go.RowKit
set_option linter.unusedVariables false
set_option linter.unusedSimpArgs false

/-- the state of a place that holds these bytes -/
def stateP (i : Int) (p : ByteArray) : Int := if decE p = 5 then 0 else if decE p ≠ 0 ∨ (i = 0 ∧ decK p ≠ 1) ∨ (i ≠ 0 ∧ decK p = 1) then 1 else 2
def stateS (s : ByteArray) (i : Int) : Int := stateP i (slotS s i)

theorem slotS_size (s : ByteArray) (i : Int) : (slotS s i).size ≤ 24 := by
  unfold slotS place
  split
  · rw [ByteArray.size_extract]; omega
  · exact Nat.zero_le _

theorem state_any (i : Int) (p : ByteArray) (hp : p.size ≤ maxLen) (w : World) :
    Calls Try.prog 25 #[.int .i64 i, .string p] w fun e w' => e = .returned (.int .i64 (stateP i p)) ∧ Below w.heap.size w w' := by
  have h1 := Decode_any p hp
  unfold decV at h1
  have hst : stateP i p = if decE p = 5 then 0 else if decE p ≠ 0 ∨ (i = 0 ∧ decK p ≠ 1) ∨ (i ≠ 0 ∧ decK p = 1) then 1 else 2 := rfl
  generalize decE p = E at *
  generalize decK p = K at *
  generalize decN p = N at *
  generalize decD p = D at *
  generalize stateP i p = R at *
  by_cases e5 : E = 5
  · subst e5
    rw [if_pos rfl] at hst
    subst hst
    go_enter Try.func25, Try.ntmps25
    go_wp2_with (with_reducible refine (h1 _).mono ?_; rintro e w1 ⟨rfl, b1⟩)
    go_ret
    exact ⟨rfl, b1.alloc b1.size _⟩
  · rw [if_neg e5] at hst
    have n5 : (E == 5) = false := by simpa using e5
    by_cases e0 : E = 0
    · subst e0
      by_cases i0 : i = 0
      · subst i0
        by_cases k1 : K = 1
        · subst k1
          rw [if_neg (by simp)] at hst
          subst hst
          clear n5 e5
          go_enter Try.func25, Try.ntmps25
          go_wp2_with (with_reducible refine (h1 _).mono ?_; rintro e w1 ⟨rfl, b1⟩)
          go_ret
          exact ⟨rfl, b1.alloc b1.size _⟩
        · rw [if_pos (by simp [k1])] at hst
          subst hst
          have nk : ((K : Int) != 1) = true := by simp; omega
          clear n5 e5 k1
          go_enter Try.func25, Try.ntmps25
          go_wp2_with (with_reducible refine (h1 _).mono ?_; rintro e w1 ⟨rfl, b1⟩)
          go_ret
          exact ⟨rfl, b1.alloc b1.size _⟩
      · have ni : (i == 0) = false := by simpa using i0
        have ni2 : (i != 0) = true := by simpa using i0
        by_cases k1 : K = 1
        · subst k1
          rw [if_pos (by simp [i0])] at hst
          subst hst
          clear n5 e5 i0
          go_enter Try.func25, Try.ntmps25
          go_wp2_with (with_reducible refine (h1 _).mono ?_; rintro e w1 ⟨rfl, b1⟩)
          go_ret
          exact ⟨rfl, b1.alloc b1.size _⟩
        · rw [if_neg (by simp [i0, k1])] at hst
          subst hst
          have nk : ((K : Int) == 1) = false := by simp; omega
          clear n5 e5 k1 i0
          go_enter Try.func25, Try.ntmps25
          go_wp2_with (with_reducible refine (h1 _).mono ?_; rintro e w1 ⟨rfl, b1⟩)
          go_ret
          exact ⟨rfl, b1.alloc b1.size _⟩
    · rw [if_pos (.inl e0)] at hst
      subst hst
      have n0 : (E != 0) = true := by simpa using e0
      clear e0 e5
      go_enter Try.func25, Try.ntmps25
      go_wp2_with (with_reducible refine (h1 _).mono ?_; rintro e w1 ⟨rfl, b1⟩)
      go_ret
      exact ⟨rfl, b1.alloc b1.size _⟩

theorem State_any (s : ByteArray) (i : Int) (hs : s.size ≤ maxLen) (w : World) :
    Calls Try.prog 16 #[.string s, .int .i64 i] w fun e w' => e = .returned (.int .i64 (stateS s i)) ∧ Below w.heap.size w w' := by
  have h1 := Slot_any s i hs
  have h2 := state_any i (slotS s i) (by have := slotS_size s i; unfold maxLen; omega)
  unfold stateS
  generalize slotS s i = X at *
  go_enter Try.func16, Try.ntmps16
  go_wp2_with (with_reducible refine (h1 _).mono ?_)
  rintro e w1 ⟨rfl, b1⟩
  go_wp2_with (with_reducible refine (h2 _).mono ?_)
  rintro e w2 ⟨rfl, b2⟩
  go_wp2
  go_ret
  exact ⟨rfl, bthen b1 b2⟩

theorem Record_any (s : ByteArray) (i : Int) (hs : s.size ≤ maxLen) (w : World) :
    Calls Try.prog 20 #[.string s, .int .i64 i] w fun e w' => e = .returned (decV (slotS s i)) ∧ Below w.heap.size w w' := by
  have h1 := Slot_any s i hs
  have h2 := Decode_any (slotS s i) (by have := slotS_size s i; unfold maxLen; omega)
  unfold decV at h2 ⊢
  generalize slotS s i = X at *
  generalize decE X = E at *
  generalize decK X = K at *
  generalize decN X = N at *
  generalize decD X = D at *
  have k0 := Blk.new w 25 #[.int .i64 0, .int .u64 0, .int .u64 0]
  have B0 : Below w.heap.size w (w.alloc (.cells #[.int .i64 0, .int .u64 0, .int .u64 0] 25)) := (Below.refl _ w).alloc (Nat.le_refl _) _
  go_enter Try.func20, Try.ntmps20
  go_wp2_with (with_reducible refine (h1 _).mono ?_)
  rintro e w1 ⟨rfl, b1⟩
  have k1 := k0.below b1 k0.lt
  have B1 := bthen B0 b1
  go_wp2_with (with_reducible refine (h2 _).mono ?_)
  rintro e w2 ⟨rfl, b2⟩
  have k2 := k1.below b2 k1.lt
  have B2 := bthen B1 b2
  have r0 := k2.cell 0
  have r1 := k2.cell 1
  have r2 := k2.cell 2
  have f0 := k2.frozen 0
  have f1 := k2.frozen 1
  have f2 := k2.frozen 2
  go_wp2
  have g := dec_sets k2 (.int .i64 (K : Int)) (.int .u64 (N : Int)) (.int .u64 (D : Int))
  have B3 := dec_bel B2 (.int .i64 (K : Int)) (.int .u64 (N : Int)) (.int .u64 (D : Int))
  generalize World.setCell (World.setCell (World.setCell w2 _ _) _ _) _ _ = W3 at *
  have s0 := g.cell 0
  have s1 := g.cell 1
  have s2 := g.cell 2
  simp at s0 s1 s2
  exact bodyPost_ret (v := .tuple #[recV (K : Int) N D, .int .i64 E]) (by simp [results, Try.results20, go_sem, s0, s1, s2]) rfl ⟨rfl, B3⟩

def genN (s : ByteArray) : Nat := if stateS s 0 = 2 then decN (slotS s 0) else 0
def genE (s : ByteArray) : Int := if stateS s 0 = 2 then 0 else 10
theorem Generation_any (s : ByteArray) (hs : s.size ≤ maxLen) (w : World) :
    Calls Try.prog 27 #[.string s] w fun e w' => e = .returned (.tuple #[.int .u64 (genN s : Int), .int .i64 (genE s)]) ∧ Below w.heap.size w w' := by
  have h1 := State_any s 0 hs
  have h2 := Record_any s 0 hs
  unfold decV at h2
  by_cases h : stateS s 0 = 2
  · have hE : decE (slotS s 0) = 0 := by
      unfold stateS stateP at h
      split at h
      · cases h
      · split at h
        · cases h
        · rename_i g; exact Classical.not_not.1 (fun q => g (.inl q))
    rw [show genN s = decN (slotS s 0) from if_pos h, show genE s = 0 from if_pos h]
    rw [h] at h1
    rw [hE] at h2
    generalize slotS s 0 = X at *
    generalize decK X = K at *
    generalize decN X = N at *
    generalize decD X = D at *
    clear h hE
    go_enter Try.func27, Try.ntmps27
    go_wp2_with (with_reducible refine (h1 _).mono ?_)
    rintro e w1 ⟨rfl, b1⟩
    go_wp2_with (with_reducible refine (h2 _).mono ?_)
    rintro e w2 ⟨rfl, b2⟩
    go_wp2
    go_ret2
    exact ⟨rfl, (bthen b1 b2).alloc (bthen b1 b2).size _⟩
  · rw [show genN s = 0 from if_neg h, show genE s = 10 from if_neg h]
    have n2 : (stateS s 0 != 2) = true := by simpa using h
    generalize stateS s 0 = S at *
    clear h
    go_enter Try.func27, Try.ntmps27
    go_wp2_with (with_reducible refine (h1 _).mono ?_)
    rintro e w1 ⟨rfl, b1⟩
    go_wp2
    go_ret2
    exact ⟨rfl, b1⟩
end Go.Proofs.Ytopcklbeppiipaa
