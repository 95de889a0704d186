/- The walk of the law BankApart. -/
import Derived.Test.YtbaahogdgldcpaaBankSh
namespace Go.Proofs.Ytbaahogdgldcpaa
open Go.RowKit
set_option linter.unusedVariables false
set_option linter.unusedSimpArgs false

/-- a bank in which a place is exchanged -/
theorem apart_facts (s t : ByteArray) (i m : Nat) (hN : placeN s = m + 1) (hm : 1 ≤ m) (hi : i ≤ m) (ht : t.size = 24) :
    placeN (s.extract 0 (24 * i) ++ t ++ s.extract (24 * i + 24) s.size) = m + 1 ∧ (s.extract 0 (24 * i) ++ t ++ s.extract (24 * i + 24) s.size).size = s.size ∧
    slotS (s.extract 0 (24 * i) ++ t ++ s.extract (24 * i + 24) s.size) i = t ∧
    ∀ k : Nat, k ≤ m → k ≠ i → stateS (s.extract 0 (24 * i) ++ t ++ s.extract (24 * i + 24) s.size) k = stateS s k := by
  obtain ⟨h1, h2, h3⟩ := placeN_pos (by omega : 0 < placeN s)
  rw [hN] at h1
  have M : Made (s.extract 0 (24 * i) ++ t ++ s.extract (24 * i + 24) s.size) (s.extract 0 (24 * i)) t (s.extract (24 * i + 24) s.size) i m :=
    ⟨rfl, by rw [ByteArray.size_extract]; omega, ht, by rw [ByteArray.size_extract]; omega, hi, hm, by omega⟩
  have hp := M.placeN
  have hz := M.size
  refine ⟨hp, by omega, ?_, fun k hk hne => ?_⟩
  · rw [slotS_nat _ _ (by omega), M.at]
  · unfold stateS
    rw [slotS_nat _ _ (by omega), slotS_nat _ _ (by omega)]
    congr 1
    rcases Nat.lt_or_gt_of_ne hne with hlt | hgt
    · rw [M.ahead k hlt, ByteArray.extract_extract]
      unfold place
      rw [Nat.min_eq_left (by omega)]
      simp
    · rw [M.behind k hgt, ByteArray.extract_extract]
      unfold place
      rw [Nat.min_eq_left (by omega)]
      congr 1 <;> omega

theorem apart_out (s t : ByteArray) (at_ : Int) (hs : s.size ≤ maxLen) (ht : t.size ≤ maxLen) (h : placeN s = 0 ∨ t.size ≠ 24) (w : World) :
    Calls Try.prog 5 #[.string s, .string t, .int .u8 at_] w fun e w' => e = .returned (.bool true) ∧ Below w.heap.size w w' := by
  have hRs := rslots_any (s.size : Int)
  rw [placeN_slots] at hRs
  by_cases hN : placeN s = 0
  · rw [hN] at hRs
    replace hRs : ∀ w : World, Calls Try.prog 12 #[.int .i64 (s.size : Int)] w fun e w' => e = .returned (.int .i64 0) ∧ w = w' := fun w => hRs w
    clear h hN
    go_enter Try.func5, Try.ntmps5
    go_wp2_with (with_reducible refine (hRs _).mono ?_; rintro e w1 ⟨rfl, rfl⟩)
    go_wp2_with (with_reducible refine (shown_any _).mono ?_; rintro e w2 ⟨rfl, b2⟩)
    go_ret
    exact ⟨rfl, b2⟩
  · obtain ⟨g1, g2, g3⟩ := placeN_pos (by omega : 0 < placeN s)
    obtain ⟨m, hm⟩ : ∃ m : Nat, placeN s = m + 1 := ⟨placeN s - 1, by omega⟩
    replace hRs : ∀ w : World, Calls Try.prog 12 #[.int .i64 (s.size : Int)] w fun e w' => e = .returned (.int .i64 (m : Int)) ∧ w = w' := fun w => by
      have := hRs w
      rw [if_pos (by omega), show (placeN s : Int) - 1 = (m : Int) by omega] at this
      exact this
    have hm0 : ((m : Int) == 0) = false := by simp; omega
    have ht24 : ((t.size : Int) != 24) = true := by simp; omega
    clear h hN hm g1 g2 g3
    go_enter Try.func5, Try.ntmps5
    go_wp2_with (with_reducible refine (hRs _).mono ?_; rintro e w1 ⟨rfl, rfl⟩)
    go_wp2_with (with_reducible refine (shown_any _).mono ?_; rintro e w2 ⟨rfl, b2⟩)
    go_ret
    exact ⟨rfl, b2⟩

set_option maxHeartbeats 2000000 in
theorem apart_law (s t : ByteArray) (a i m : Nat) (hs : s.size ≤ maxLen) (hN : placeN s = m + 1) (hm : 1 ≤ m) (hm12 : m ≤ 12) (ha : a < 256) (hai : a % (m + 1) = i) (ht : t.size = 24) (w : World) :
    Calls Try.prog 5 #[.string s, .string t, .int .u8 (a : Int)] w fun e w' => e = .returned (.bool true) ∧ Below w.heap.size w w' := by
  have hi : i ≤ m := by have := Nat.mod_lt a (show 0 < m + 1 by omega); omega
  obtain ⟨u1, u2, u3, u4⟩ := apart_facts s t i m hN hm hi ht
  have hsz := (placeN_pos (by omega : 0 < placeN s)).1
  rw [hN] at hsz
  have hRs := rslots_any (s.size : Int)
  rw [placeN_slots, hN] at hRs
  replace hRs : ∀ w : World, Calls Try.prog 12 #[.int .i64 (s.size : Int)] w fun e w' => e = .returned (.int .i64 (m : Int)) ∧ w = w' := fun w => by
    have := hRs w
    rw [if_pos (by omega), show ((m + 1 : Nat) : Int) - 1 = (m : Int) by omega] at this
    exact this
  have hS1 := fun k : Nat => State_any s (k : Int) hs
  have hS2 := fun k : Nat => State_any (s.extract 0 (24 * i) ++ t ++ s.extract (24 * i + 24) s.size) (k : Int) (by rw [u2]; exact hs)
  have hSl := Slot_any (s.extract 0 (24 * i) ++ t ++ s.extract (24 * i + 24) s.size) (i : Int) (by rw [u2]; exact hs)
  rw [u3] at hSl
  have HU4 := Lib.hid u4
  have HE := Lib.hid (rfl : s.extract 0 (24 * i) ++ t ++ s.extract (24 * i + 24) s.size = s.extract 0 (24 * i) ++ t ++ s.extract (24 * i + 24) s.size)
  have zA : (s.extract 0 (24 * i)).size = 24 * i := by rw [ByteArray.size_extract]; omega
  have zC : (s.extract (24 * i + 24) s.size).size = 24 * (m - i) := by rw [ByteArray.size_extract]; omega
  have hm0 : ((m : Int) == 0) = false := by simp; omega
  have ht24 : ((t.size : Int) != 24) = false := by simp; omega
  have hrem : (a : Int).tmod ((m : Int) + 1) = (i : Int) := by
    rw [show ((m : Int) + 1) = ((m + 1 : Nat) : Int) by omega, Int.tmod_eq_emod_of_nonneg (by omega), ← Int.natCast_emod, hai]
  have HSZ := Lib.hid hsz
  have hb1 : (24 * (i : Int)) ≤ (s.size : Int) := by omega
  have hb2 : (24 * (i : Int)) + 24 ≤ (s.size : Int) := by omega
  have HI := Lib.hid hi
  clear u1 u2 u3 u4 hN hsz
  go_enter Try.func5, Try.ntmps5
  go_wp2_with (with_reducible refine (hRs _).mono ?_; rintro e w1 ⟨rfl, rfl⟩)
  go_wp2_with (with_reducible refine (shown_any _).mono ?_; rintro e w2 ⟨rfl, b2⟩)
  go_wp2_with fail
  go_quiet (fail)
  have b3 : Below w.heap.size w (w2.drewN nq) := ⟨b2.os, b2.tape, b2.output, b2.size, b2.block⟩
  generalize w2.drewN nq = w3 at *
  go_wp2_with fail
  generalize s.extract 0 (24 * i) ++ t ++ s.extract (24 * i + 24) s.size = U at *
  go_loopw [10] (fun j wr => ∃ k : Nat, k ≤ m + 1 ∧ j = .int .i64 k ∧ Below w.heap.size w wr) (fun j _ => m + 1 - (intOf j).toNat)
  case atStart => exact ⟨0, by omega, rfl, b3⟩
  case round =>
    obtain ⟨k, hk, rfl, bk⟩ := hrel
    by_cases hlt : k ≤ m
    · by_cases hki : k = i
      · subst hki
        go_wp2_with fail
        go_roundw
        case rel => exact ⟨k + 1, by omega, by go_num, bk⟩
        case measure => simp [intOf]; omega
      · have hne : ((k : Int) != (i : Int)) = true := by simp; omega
        have q1 := hS1 k
        have q2 := hS2 k
        rw [HU4.out k hlt hki] at q2
        clear hki
        go_wp2_with (with_reducible refine (q2 _).mono ?_; rintro e w4 ⟨rfl, b4⟩)
        go_wp2_with (with_reducible refine (q1 _).mono ?_; rintro e w5 ⟨rfl, b5⟩)
        go_roundw
        case rel => exact ⟨k + 1, by omega, by go_num, bthen (bthen bk b4) b5⟩
        case measure => simp [intOf]; omega
    · obtain rfl : k = m + 1 := by omega
      have hnle : decide (((m + 1 : Nat) : Int) ≤ (m : Int)) = false := by simp; omega
      go_wp2_with (with_reducible refine (hSl _).mono ?_; rintro e w4 ⟨rfl, b4⟩)
      go_ret
      exact ⟨rfl, bthen bk b4⟩

theorem BankApart_walk (s t : ByteArray) (at_ : Int) (hs : s.size ≤ maxLen) (ht : t.size ≤ maxLen) (ha : (Lit.int .u8 at_).wf = true) (w : World) :
    Calls Try.prog 5 #[.string s, .string t, .int .u8 at_] w fun e w' => e = .returned (.bool true) ∧ Below w.heap.size w w' := by
  have hb : 0 ≤ at_ ∧ at_ < 256 := by simp [Lit.wf, IntKind.min, IntKind.max, IntKind.signed, IntKind.bits] at ha; omega
  by_cases h : placeN s = 0 ∨ t.size ≠ 24
  · exact apart_out s t at_ hs ht h w
  · obtain ⟨g1, g2, g3⟩ := placeN_pos (by omega : 0 < placeN s)
    obtain ⟨m, hm⟩ : ∃ m : Nat, placeN s = m + 1 := ⟨placeN s - 1, by omega⟩
    obtain ⟨a, rfl⟩ : ∃ a : Nat, at_ = (a : Int) := ⟨at_.toNat, by omega⟩
    exact apart_law s t a (a % (m + 1)) m hs hm (by omega) (by omega) (by omega) rfl (by omega) w
end Go.Proofs.Ytbaahogdgldcpaa
