/- The walk of the law BankNew. -/
import Derived.Test.YtbaahogdgldcpaaBankSh
namespace Go.Proofs.Ytbaahogdgldcpaa
open Go.RowKit
set_option linter.unusedVariables false
set_option linter.unusedSimpArgs false

theorem full_state (Z : Nat) (j : Nat) (h : j < placeN (fullB Z)) : stateS (fullB Z) (j : Int) = 0 := by
  obtain ⟨h1, h2, h3⟩ := placeN_pos (by omega : 0 < placeN (fullB Z))
  rw [fullB_size] at h1
  unfold stateS
  rw [slotS_nat _ _ h]
  unfold place
  rw [full_ext Z _ _ (by omega), show 24 * j + 24 - 24 * j = 24 by omega]
  exact stateP_full _
theorem full_genE (Z : Nat) : genE (fullB Z) = 10 := by
  unfold genE
  rw [if_neg]
  by_cases h : 0 < placeN (fullB Z)
  · have := full_state Z 0 h
    rw [show ((0 : Nat) : Int) = 0 from rfl] at this
    rw [this]; decide
  · unfold stateS
    rw [slotS_none _ _ (.inr (by omega)), stateP_empty]; decide
theorem full_statesL (Z : Nat) (j : Nat) (h : j < (statesL (fullB Z)).length) : (statesL (fullB Z))[j]? = some 0 := by
  have := statesL_length (fullB Z)
  rw [statesL_get _ _ (by omega), show ((j : Int) + 1) = ((j + 1 : Nat) : Int) by omega, full_state _ _ (by omega)]
theorem sizeL_nat (n : Int) : ∃ Z : Nat, sizeL n = (Z : Int) ∧ Z ≤ 400 ∧ (Z = 0 ∨ 0 < placeN (fullB Z)) := by
  unfold sizeL
  split
  · rename_i h
    refine ⟨(24 * n + 24).toNat, by omega, by omega, .inr ?_⟩
    unfold placeN
    rw [fullB_size, if_pos (by omega)]
    omega
  · exact ⟨0, rfl, by omega, .inl rfl⟩

set_option maxHeartbeats 2000000 in
theorem BankNew_walk (n : Int) (hn : (Lit.int .i64 n).wf = true) (w : World) :
    Calls Try.prog 3 #[.int .i64 n] w fun e w' => e = .returned (.bool true) ∧ Below w.heap.size w w' := by
  obtain ⟨Z, hZ, hZ4, hZ0⟩ := sizeL_nat n
  have hsz : (fullB Z).size = Z := fullB_size Z
  have hm : (fullB Z).size ≤ maxLen := by rw [hsz]; unfold maxLen; omega
  have h1 := rsize_any n
  rw [hZ] at h1
  have h2 := lblank_any Z (by omega)
  have h3 := States_any (fullB Z) hm
  unfold StatesPost at h3
  have h4 := Generation_any (fullB Z) hm
  rw [full_genE] at h4
  have h5 := rslots_any ((fullB Z).size : Int)
  rw [placeN_slots] at h5
  have hlen := statesL_length (fullB Z)
  have h6 : 0 < Z → ∀ w, Calls Try.prog 13 #[.string (fullB Z), .int .i64 0] w fun e w' => e = .returned (.int .i64 0) ∧ Below w.heap.size w w' := fun h w => by
    have := State_any (fullB Z) 0 hm w
    rw [show stateS (fullB Z) 0 = 0 from full_state Z 0 (by omega)] at this
    exact this
  have hget := full_statesL Z
  have h5' : ∀ w : World, Calls Try.prog 12 #[.int .i64 ((fullB Z).size : Int)] w fun e w' => e = .returned (.int .i64 ((statesL (fullB Z)).length : Int)) ∧ w = w' := fun w => by
    have h := h5 w
    rw [show (placeN (fullB Z) : Int) - (if 0 < placeN (fullB Z) then 1 else 0) = ((statesL (fullB Z)).length : Int) by rw [hlen]; split <;> omega] at h
    exact h
  have hL13 : (statesL (fullB Z)).length ≤ 13 := by
    rw [hlen]
    by_cases h : 0 < placeN (fullB Z)
    · have := (placeN_pos h).2.2; omega
    · omega
  clear h5 hlen hZ0 hZ
  have HZ4 := Lib.hid hZ4
  clear hZ4
  generalize statesL (fullB Z) = L at *
  generalize genN (fullB Z) = G at *
  generalize fullB Z = X at *
  have HG := Lib.hid hget
  have H13 := Lib.hid hL13
  have HSZ := Lib.hid hsz
  clear hget hL13 hm hsz
  go_enter Try.func3, Try.ntmps3
  go_wp2_with (with_reducible refine (shown_any _).mono ?_; rintro e w1 ⟨rfl, b1⟩)
  go_wp2_with (with_reducible refine (h1 _).mono ?_; rintro e w2 ⟨rfl, rfl⟩)
  go_wp2_with (with_reducible refine (h2 _).mono ?_; rintro e w2 ⟨rfl, rfl⟩)
  go_wp2_with (with_reducible refine (h3 _).mono ?_)
  rintro e w3 ⟨v, rfl, own3, b3⟩
  have B3 := bthen b1 b3
  have hform : ∃ p c, v = .slice p L.length c ∧ ∀ j : Nat, j < L.length → ∃ g : Nat, p = some ⟨g, 0, none⟩ ∧ g < w3.heap.size ∧ w3.cell? ⟨g, j, none⟩ = some (.int .i64 0) := by
    by_cases hl : 0 < L.length
    · obtain ⟨g, cap, rfl, hg, hgl, hcells⟩ := own3.form hl
      exact ⟨_, _, rfl, fun j hj => ⟨g, rfl, hgl, hcells j 0 (HG.out j hj)⟩⟩
    · obtain ⟨p, c, rfl⟩ := own3.nil
      exact ⟨p, c, rfl, fun j hj => by omega⟩
  obtain ⟨p, c, rfl, hF⟩ := hform
  have HF := Lib.hid hF
  clear hF own3
  go_wp2_with fail
  go_loopw [5] (fun i wr => ∃ k : Nat, k ≤ L.length ∧ i = .int .i64 k ∧ wr = w3) (fun i _ => L.length - (intOf i).toNat)
  case atStart => exact ⟨0, by omega, rfl, rfl⟩
  case round =>
    obtain ⟨k, hk, rfl, rfl⟩ := hrel
    have h13 := H13.out
    by_cases hlt : k < L.length
    · obtain ⟨g, hp, hgl, hc⟩ := HF.out k hlt
      subst hp
      go_wp2_with fail
      go_roundw
      case rel => exact ⟨k + 1, by omega, by go_num, by trivial⟩
      case measure => simp [intOf]; omega
    · obtain rfl : k = L.length := by omega
      go_wp2_with (with_reducible refine (h4 _).mono ?_)
      rintro e w5 ⟨rfl, b5⟩
      have B5 := bthen B3 b5
      have hsz := HSZ.out
      by_cases hz : Z = 0
      · have hz0 : ((X.size : Int) == 0) = true := by rw [hsz, hz]; rfl
        clear hsz
        go_wp2_with (with_reducible refine (h5' _).mono ?_; rintro e w6 ⟨rfl, rfl⟩)
        go_ret
        exact ⟨rfl, B5⟩
      · have hz0 : ((X.size : Int) == 0) = false := by rw [hsz]; simpa using hz
        clear hsz
        have h6' := h6 (by omega)
        go_wp2_with (with_reducible refine (h5' _).mono ?_; rintro e w6 ⟨rfl, rfl⟩)
        go_wp2_with (with_reducible refine (h6' _).mono ?_; rintro e w7 ⟨rfl, b7⟩)
        go_ret
        exact ⟨rfl, bthen B5 b7⟩
end Go.Proofs.Ytbaahogdgldcpaa
