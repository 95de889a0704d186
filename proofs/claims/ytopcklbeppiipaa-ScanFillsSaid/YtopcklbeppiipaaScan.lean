/- scan.Good, Next, Last, Sound. -/
import Derived.Test.YtopcklbeppiipaaBankP
namespace Go.Proofs.Ytopcklbeppiipaa
open Go.RowKit
set_option linter.unusedVariables false
set_option linter.unusedSimpArgs false

/-- the cells of the states, in a world -/
def StC (s : ByteArray) (p : Option Addr) (B : Nat) (W : World) : Prop :=
  ∀ j : Nat, j + 1 < placeN s → ∃ g : Nat, p = some ⟨g, 0, none⟩ ∧ B < g ∧ g < W.heap.size ∧ W.cell? ⟨g, j, none⟩ = some (.int .i64 (stateS s ((j : Int) + 1)))
theorem StC.below {s p B W W'} (h : StC s p B W) (hb : Below W.heap.size W W') : StC s p B W' := fun j hj => by
  obtain ⟨g, h1, h2, h3, h4⟩ := h j hj
  exact ⟨g, h1, h2, Nat.lt_of_lt_of_le h3 hb.size, (hb.cell (p := ⟨g, j, none⟩) h3).trans h4⟩
theorem cell_other (W : World) (p q : Addr) (u : Value) (h : p.block ≠ q.block) : (W.setCell p u).cell? q = W.cell? q :=
  World.cell?_of_block (Below.heap_setCell W p u q.block (Ne.symm h))
theorem StC.set {s p B W} (h : StC s p B W) (k : Nat) (u : Value) : StC s p B (W.setCell ⟨B, k, none⟩ u) := fun j hj => by
  obtain ⟨g, h1, h2, h3, h4⟩ := h j hj
  exact ⟨g, h1, h2, by simpa using h3, (cell_other W _ _ u (by simp; omega)).trans h4⟩

/-- what bank.States hands over, as a slice and its cells -/
theorem states_cells {s : ByteArray} {w W : World} {v : Value} (B : Nat) (hB : B < w.heap.size) (own : OwnsI W w.heap.size v (statesL s)) :
    ∃ p c, v = .slice p ((placeN s - 1 : Nat)) c ∧ StC s p B W := by
  have hl := statesL_length s
  by_cases h : 0 < (statesL s).length
  · obtain ⟨g, cap, rfl, hg, hgl, hcells⟩ := own.form h
    exact ⟨_, cap, by rw [hl], fun j hj => ⟨g, rfl, by omega, hgl, hcells j _ (statesL_get s j hj)⟩⟩
  · obtain ⟨p, c, rfl⟩ := own.nil
    exact ⟨p, c, by rw [hl], fun j hj => by omega⟩

/-! ### how many are good -/
def goodN (s : ByteArray) : Nat → Nat
  | 0 => 0
  | k + 1 => goodN s k + (if stateS s ((k : Int) + 1) = 2 then 1 else 0)
theorem goodN_le (s : ByteArray) (k : Nat) : goodN s k ≤ k := by
  induction k with
  | zero => simp [goodN]
  | succ k ih => unfold goodN; split <;> omega
def goodS (s : ByteArray) : Nat := goodN s (placeN s - 1)

theorem Good_any (s : ByteArray) (hs : s.size ≤ maxLen) (w : World) :
    Calls Try.prog 13 #[.string s] w fun e w' => e = .returned (.int .i64 (goodS s : Int)) ∧ Below w.heap.size w w' := by
  have h3 := States_any s hs
  unfold StatesPost at h3
  have hN : placeN s ≤ 13 := by unfold placeN; split <;> omega
  unfold goodS
  obtain ⟨n, hn⟩ : ∃ n, n = placeN s - 1 := ⟨_, rfl⟩
  have HN := Lib.hid hn
  have hn12 : n ≤ 12 := by omega
  rw [← hn]
  clear hn
  go_enter Try.func13, Try.ntmps13
  go_wp2_with fail
  refine (h3 _).mono ?_
  rintro e w3 ⟨v, rfl, own3, b3⟩
  have hcell : ∃ p c, v = .slice p (n : Nat) c ∧ ∀ j : Nat, j < n → ∃ g : Nat, p = some ⟨g, 0, none⟩ ∧ w3.cell? ⟨g, j, none⟩ = some (.int .i64 (stateS s ((j : Int) + 1))) := by
    have hl := statesL_length s
    have hn := HN.out
    by_cases h : 0 < (statesL s).length
    · obtain ⟨g, cap, rfl, hg, hgl, hcells⟩ := own3.form h
      exact ⟨_, cap, by rw [hl, hn], fun j hj => ⟨g, rfl, hcells j _ (statesL_get s j (by omega))⟩⟩
    · obtain ⟨p, c, rfl⟩ := own3.nil
      exact ⟨p, c, by rw [hl, hn], fun j hj => by omega⟩
  obtain ⟨p, c, rfl, hF⟩ := hcell
  have HF := Lib.hid hF
  clear hF own3
  go_wp2_with fail
  go_loopw [2, 8] (fun m i wr => ∃ k : Nat, k ≤ n ∧ i = .int .i64 k ∧ m = .int .i64 (goodN s k : Nat) ∧ wr = w3) (fun _ i _ => n - (intOf i).toNat)
  case atStart => exact ⟨0, by omega, rfl, rfl, rfl⟩
  case round =>
    obtain ⟨k, hk, rfl, rfl, rfl⟩ := hrel
    have hgl := goodN_le s k
    by_cases hlt : k < n
    · obtain ⟨g, hp, hc⟩ := HF.out k hlt
      have hG := Lib.hid (show goodN s (k + 1) = goodN s k + (if stateS s ((k : Int) + 1) = 2 then 1 else 0) from rfl)
      subst hp
      by_cases h2 : stateS s ((k : Int) + 1) = 2
      · rw [h2] at hc
        have HH := Lib.hid h2
        clear h2
        go_wp2_with fail
        go_roundw
        case rel => exact ⟨k + 1, by omega, by go_num, by rw [hG.out, if_pos HH.out]; go_num, by trivial⟩
        case measure => simp [intOf]; omega
      · have n2 : (stateS s ((k : Int) + 1) == 2) = false := by simpa using h2
        have HH := Lib.hid h2
        clear h2
        go_wp2_with fail
        go_roundw
        case rel => exact ⟨k + 1, by omega, by go_num, by rw [hG.out, if_neg HH.out, Nat.add_zero], by trivial⟩
        case measure => simp [intOf]; omega
    · obtain rfl : k = n := by omega
      go_wp2_with fail
      go_ret
      exact ⟨rfl, b3⟩

/-! ### the next one -/
/-- how many blank ones stand at the end of the first m -/
def free (s : ByteArray) : Nat → Nat
  | 0 => 0
  | m + 1 => if stateS s ((m : Int) + 1) = 0 then free s m + 1 else 0
theorem free_le (s : ByteArray) (m : Nat) : free s m ≤ m := by
  induction m with
  | zero => simp [free]
  | succ m ih => unfold free; split <;> omega
theorem free_zero (s : ByteArray) (m : Nat) : ∀ j : Nat, m - free s m < j → j ≤ m → stateS s (j : Int) = 0 := by
  induction m with
  | zero => intro j h1 h2; omega
  | succ m ih =>
    intro j h1 h2
    unfold free at h1
    split at h1
    · rename_i h
      by_cases hj : j = m + 1
      · subst hj; rw [← h]; congr 1
      · exact ih j (by have := free_le s m; omega) (by omega)
    · omega
theorem free_stop (s : ByteArray) (m : Nat) : ∀ j : Nat, m - free s m = j → 0 < j → stateS s (j : Int) ≠ 0 := by
  induction m with
  | zero => intro j h1 h2; omega
  | succ m ih =>
    intro j h1 h2
    unfold free at h1
    split at h1
    · exact ih j (by have := free_le s m; omega) h2
    · rename_i h
      obtain rfl : j = m + 1 := by omega
      rw [show ((m + 1 : Nat) : Int) = (m : Int) + 1 by omega]
      exact h
def nextS (s : ByteArray) : Int := if free s (placeN s - 1) = 0 then 0 else ((placeN s - 1 : Nat) : Int) - (free s (placeN s - 1) : Int) + 1

set_option maxHeartbeats 1000000 in
theorem Next_any (s : ByteArray) (hs : s.size ≤ maxLen) (w : World) :
    Calls Try.prog 14 #[.string s] w fun e w' => e = .returned (.int .i64 (nextS s)) ∧ Below w.heap.size w w' := by
  have h3 := States_any s hs
  unfold StatesPost at h3
  have hN : placeN s ≤ 13 := by unfold placeN; split <;> omega
  have hfz := free_zero s (placeN s - 1)
  have hfs := free_stop s (placeN s - 1)
  have hfl := free_le s (placeN s - 1)
  have hnx : nextS s = if free s (placeN s - 1) = 0 then 0 else ((placeN s - 1 : Nat) : Int) - (free s (placeN s - 1) : Int) + 1 := rfl
  obtain ⟨n, hn⟩ : ∃ n, n = placeN s - 1 := ⟨_, rfl⟩
  have HN := Lib.hid hn
  have hn12 : n ≤ 12 := by omega
  rw [← hn] at hfz hfs hfl hnx
  clear hn hN
  generalize free s n = F at *
  generalize nextS s = R at *
  have HZ := Lib.hid hfz
  have HS := Lib.hid hfs
  have HR := Lib.hid hnx
  clear hfz hfs hnx
  go_enter Try.func14, Try.ntmps14
  go_wp2_with fail
  refine (h3 _).mono ?_
  rintro e w3 ⟨v, rfl, own3, b3⟩
  have hcell : ∃ p c, v = .slice p (n : Nat) c ∧ ∀ j : Nat, j < n → ∃ g : Nat, p = some ⟨g, 0, none⟩ ∧ w3.cell? ⟨g, j, none⟩ = some (.int .i64 (stateS s ((j : Int) + 1))) := by
    have hl := statesL_length s
    have hn := HN.out
    by_cases h : 0 < (statesL s).length
    · obtain ⟨g, cap, rfl, hg, hgl, hcells⟩ := own3.form h
      exact ⟨_, cap, by rw [hl, hn], fun j hj => ⟨g, rfl, hcells j _ (statesL_get s j (by omega))⟩⟩
    · obtain ⟨p, c, rfl⟩ := own3.nil
      exact ⟨p, c, by rw [hl, hn], fun j hj => by omega⟩
  obtain ⟨p, c, rfl, hF⟩ := hcell
  have HF := Lib.hid hF
  clear hF own3
  go_wp2_with fail
  go_loopw [4, 9] (fun m i wr => ∃ k : Nat, k ≤ F ∧ i = .int .i64 k ∧ m = .int .i64 (k : Nat) ∧ wr = w3) (fun _ i _ => n - (intOf i).toNat)
  case atStart => exact ⟨0, by omega, rfl, rfl, rfl⟩
  case round =>
    obtain ⟨k, hk, rfl, rfl, rfl⟩ := hrel
    by_cases hlt : k < n
    · obtain ⟨q, hq⟩ : ∃ q : Nat, (n : Int) - 1 - (k : Int) = (q : Int) := ⟨n - 1 - k, by omega⟩
      obtain ⟨g, hp, hc⟩ := HF.out q (by omega)
      subst hp
      by_cases hkF : k < F
      · have hz := HZ.out (q + 1) (by omega) (by omega)
        rw [show ((q + 1 : Nat) : Int) = (q : Int) + 1 by omega] at hz
        rw [hz] at hc
        clear hz
        have hqn : q < n := by omega
        go_wp2_with fail
        go_roundw
        case rel => exact ⟨k + 1, by omega, by go_num, by go_num, by trivial⟩
        case measure => simp [intOf]; omega
      · have hkF' : k = F := by omega
        have hz := HS.out (q + 1) (by omega) (by omega)
        rw [show ((q + 1 : Nat) : Int) = (q : Int) + 1 by omega] at hz
        generalize stateS s ((q : Int) + 1) = S at *
        have hS : (S != 0) = true := by simpa using hz
        have hqn : q < n := by omega
        have hR := HR.out
        rw [← hkF'] at hR
        clear hz hkF hkF'
        by_cases hk0 : k = 0
        · rw [if_pos hk0] at hR
          have hk0' : ((k : Int) == 0) = true := by simp; omega
          have HR2 := Lib.hid hR
          clear hR hk0
          go_wp2_with fail
          go_ret
          exact ⟨ret_int HR2.out.symm, b3⟩
        · have hk0' : ((k : Int) == 0) = false := by simp; omega
          rw [if_neg hk0] at hR
          have HR2 := Lib.hid hR
          clear hR hk0
          go_wp2_with fail
          go_ret
          exact ⟨ret_int HR2.out.symm, b3⟩
    · have hkF' : k = F := by omega
      have hkn : k = n := by omega
      have hR := HR.out
      rw [← hkF'] at hR
      clear hkF'
      by_cases hk0 : k = 0
      · rw [if_pos hk0] at hR
        have HR2 := Lib.hid hR
        have d1 : decide ((k : Int) < (n : Int)) = false := by simp; omega
        have hk0' : ((k : Int) == 0) = true := by simp; omega
        clear hR hk0 hkn
        go_wp2_with fail
        go_ret
        exact ⟨ret_int HR2.out.symm, b3⟩
      · have hk0' : ((k : Int) == 0) = false := by simp; omega
        rw [if_neg hk0] at hR
        have HR2 := Lib.hid hR
        have d1 : decide ((k : Int) < (n : Int)) = false := by simp; omega
        clear hR hk0 hkn
        go_wp2_with fail
        go_ret
        exact ⟨ret_int HR2.out.symm, b3⟩

/-! ### sound -/
def soundS (s : ByteArray) : Bool := decide (genE s = 0 ∧ 0 < goodS s)
theorem Sound_any (s : ByteArray) (hs : s.size ≤ maxLen) (w : World) :
    Calls Try.prog 18 #[.string s] w fun e w' => e = .returned (.bool (soundS s)) ∧ Below w.heap.size w w' := by
  have h1 := Generation_any s hs
  have h2 := Good_any s hs
  have hg : goodS s ≤ 13 := by
    have := goodN_le s (placeN s - 1)
    have hN : placeN s ≤ 13 := by unfold placeN; split <;> omega
    unfold goodS; omega
  have hs : soundS s = decide (genE s = 0 ∧ 0 < goodS s) := rfl
  have hE : genE s = 0 ∨ genE s = 10 := by unfold genE; split <;> simp
  generalize soundS s = R at *
  generalize goodS s = G at *
  generalize genN s = N at *
  rcases hE with hE | hE
  · rw [hE] at h1 hs
    have HS := Lib.hid hs
    clear hs hE
    go_enter Try.func18, Try.ntmps18
    go_wp2_with (with_reducible refine (h1 _).mono ?_; rintro e w1 ⟨rfl, b1⟩)
    go_wp2_with (with_reducible refine (h2 _).mono ?_; rintro e w2 ⟨rfl, b2⟩)
    go_ret
    exact ⟨by rw [HS.out]; simp, bthen b1 b2⟩
  · rw [hE] at h1 hs
    have HS := Lib.hid hs
    clear hs hE
    go_enter Try.func18, Try.ntmps18
    go_wp2_with (with_reducible refine (h1 _).mono ?_; rintro e w1 ⟨rfl, b1⟩)
    go_ret
    exact ⟨by rw [HS.out]; simp, b1⟩
end Go.Proofs.Ytopcklbeppiipaa
