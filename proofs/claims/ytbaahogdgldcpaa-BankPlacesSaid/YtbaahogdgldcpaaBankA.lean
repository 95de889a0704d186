/- The walk of the law BankPlaces. -/
import Derived.Test.YtbaahogdgldcpaaBankSh
namespace Go.Proofs.Ytbaahogdgldcpaa
open Go.RowKit
set_option linter.unusedVariables false
set_option linter.unusedSimpArgs false

def catS (s : ByteArray) (k : Nat) : ByteArray := s.extract 0 (24 * min k (placeN s))
theorem catS_succ (s : ByteArray) (k : Nat) : catS s k ++ slotS s (k : Int) = catS s (k + 1) := by
  unfold catS
  by_cases h : k < placeN s
  · have := (placeN_pos (by omega : 0 < placeN s)).1
    rw [slotS_nat s k h, Nat.min_eq_left (by omega), Nat.min_eq_left (by omega)]
    unfold place
    rw [ByteArray.extract_append_extract, Nat.min_eq_left (by omega), Nat.max_eq_right (by omega)]
    rfl
  · rw [slotS_none s _ (.inr (by omega)), Nat.min_eq_right (by omega), Nat.min_eq_right (by omega)]
    apply ByteArray.ext
    apply Array.ext'
    simp
theorem catS_all (s : ByteArray) (h : 0 < placeN s) : catS s 14 = s := by
  obtain ⟨h1, h2, h3⟩ := placeN_pos h
  unfold catS
  rw [Nat.min_eq_right (by omega), ← h1]; simp
theorem catS_none (s : ByteArray) (h : placeN s = 0) (k : Nat) : catS s k = ⟨#[]⟩ := by
  unfold catS
  rw [h, Nat.min_eq_right (by omega)]
  apply ByteArray.ext
  apply Array.ext'
  simp
theorem catS_size (s : ByteArray) (k : Nat) : (catS s k).size ≤ s.size := by
  unfold catS; rw [ByteArray.size_extract]; omega

theorem places_out (s : ByteArray) (h : 400 < s.size) (hs : s.size ≤ maxLen) (w : World) :
    Calls Try.prog 4 #[.string s] w fun e w' => e = .returned (.bool true) ∧ Below w.heap.size w w' := by
  unfold maxLen at hs
  go_enter Try.func4, Try.ntmps4
  go_wp2_with (with_reducible refine (shown_any _).mono ?_; rintro e w1 ⟨rfl, b1⟩)
  go_ret
  exact ⟨rfl, b1⟩

set_option maxHeartbeats 2000000 in
theorem places_law (s : ByteArray) (h : s.size ≤ 400) (w : World) :
    Calls Try.prog 4 #[.string s] w fun e w' => e = .returned (.bool true) ∧ Below w.heap.size w w' := by
  have hm : s.size ≤ maxLen := by unfold maxLen; omega
  have hSl := fun i => Slot_any s i hm
  have hSt := States_any s hm
  have hRs := rslots_any (s.size : Int)
  rw [placeN_slots] at hRs
  have hlen := statesL_length s
  have HCS := Lib.hid (catS_succ s)
  have HCZ := Lib.hid (catS_size s)
  have HSZ := Lib.hid (fun i => slotS_size s i)
  have hneg := slotS_none s (-1) (.inl (by omega))
  have h1n := hSl (-1)
  rw [hneg] at h1n
  have HL := Lib.hid hlen
  clear hlen hneg hm
  go_enter Try.func4, Try.ntmps4
  go_wp2_with (with_reducible refine (shown_any _).mono ?_)
  rintro e w1 ⟨rfl, b1⟩
  have HC0 : catS s 0 = ⟨#[]⟩ := by unfold catS; apply ByteArray.ext; apply Array.ext'; simp
  have HC0' := Lib.hid HC0
  clear HC0
  go_wp2_with fail
  go_loopw [3, 4] (fun v i wr => ∃ k : Nat, k ≤ 14 ∧ i = .int .i64 k ∧ v = .string (catS s k) ∧ Below w.heap.size w wr) (fun _ i _ => 14 - (intOf i).toNat)
  case atStart => exact ⟨0, by omega, rfl, by rw [HC0'.out], b1⟩
  case round =>
    obtain ⟨k, hk, rfl, rfl, br⟩ := hrel
    by_cases hlt : k ≤ 13
    · have hk1 := hSl (k : Int)
      have z1 := Nat.le_trans (HCZ.out k) h
      have z2 := HSZ.out (k : Int)
      have hcat := Lib.hid (HCS.out k)
      generalize slotS s (k : Int) = X at *
      go_wp2_with (with_reducible refine (hk1 _).mono ?_; rintro e w2 ⟨rfl, b2⟩)
      go_roundw
      case rel => exact ⟨k + 1, by omega, by go_num, by rw [← hcat.out], bthen br b2⟩
      case measure => simp [intOf]; omega
    · obtain rfl : k = 14 := by omega
      by_cases hN : placeN s = 0
      · have e14 := catS_none s hN 14
        rw [hN] at hRs
        replace hRs : ∀ w : World, Calls Try.prog 12 #[.int .i64 (s.size : Int)] w fun e w' => e = .returned (.int .i64 0) ∧ w = w' := fun w => hRs w
        simp only [e14]
        have HL0 : (statesL s).length = 0 := by rw [HL.out, hN]
        have HL1 := Lib.hid HL0
        clear HL0 hN e14 h1n
        go_wp2_with (with_reducible refine (hRs _).mono ?_; rintro e w2 ⟨rfl, rfl⟩)
        refine (hSt _).mono ?_
        rintro e w5 ⟨v, rfl, own5, b5⟩
        obtain ⟨p, c, rfl⟩ := own5.nil
        have hl0 := HL1.out
        simp only [hl0]
        go_wp2
        go_ret
        exact ⟨rfl, bthen br b5⟩
      · obtain ⟨g1, g2, g3⟩ := placeN_pos (by omega : 0 < placeN s)
        have e14 := catS_all s (by omega)
        obtain ⟨m, hm⟩ : ∃ m : Nat, placeN s = m + 1 := ⟨placeN s - 1, by omega⟩
        replace hRs : ∀ w : World, Calls Try.prog 12 #[.int .i64 (s.size : Int)] w fun e w' => e = .returned (.int .i64 (m : Int)) ∧ w = w' := fun w => by
          have := hRs w
          rw [if_pos (by omega), show (placeN s : Int) - 1 = (m : Int) by omega] at this
          exact this
        have hm0 : ((m : Int) == 0) = false := by simp; omega
        simp only [e14]
        clear e14 g1 g2 g3 hN hm
        go_wp2_with (with_reducible refine (hRs _).mono ?_; rintro e w2 ⟨rfl, rfl⟩)
        go_wp2_with (with_reducible refine (h1n _).mono ?_; rintro e w3 ⟨rfl, b3⟩)
        go_ret
        exact ⟨rfl, bthen br b3⟩

theorem BankPlaces_walk (s : ByteArray) (hs : s.size ≤ maxLen) (w : World) :
    Calls Try.prog 4 #[.string s] w fun e w' => e = .returned (.bool true) ∧ Below w.heap.size w w' := by
  by_cases h : 400 < s.size
  · exact places_out s h hs w
  · exact places_law s (by omega) w
end Go.Proofs.Ytbaahogdgldcpaa
