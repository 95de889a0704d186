/- The walk of the law ClearCounts. -/
import Derived.Test.YtlkionloiofkhaaClearMays
namespace Go.Proofs.Ytlkionloiofkhaa
open Go.RowKit Go.Shelf
attribute [local go_sem] Oper.semAt_some
set_option linter.unusedVariables false

def wentF (o w m : ByteArray) (j : Nat) : UInt8 := byteOr o 0 j &&& ~~~(byteOr w 255 j) &&& byteOr m 0 j
def sumTo (o w m : ByteArray) (k : Nat) : Nat := ((List.range k).map fun j => popc (wentF o w m j)).sum
theorem sumTo_succ (o w m : ByteArray) (k : Nat) : sumTo o w m (k + 1) = sumTo o w m k + popc (wentF o w m k) := by
  simp [sumTo, List.range_succ]
theorem sumTo_le (o w m : ByteArray) (k : Nat) : sumTo o w m k ≤ 8 * k := by
  induction k with
  | zero => simp [sumTo]
  | succ k ih => rw [sumTo_succ]; have := popc_le (wentF o w m k); omega
theorem sumTo_rest (o w m : ByteArray) (k n : Nat) (h : ∀ j, k ≤ j → wentF o w m j = 0) (hn : k ≤ n) : sumTo o w m n = sumTo o w m k := by
  induction n with
  | zero => obtain rfl : k = 0 := by omega
            rfl
  | succ n ih =>
    by_cases e : k = n + 1
    · rw [e]
    · rw [sumTo_succ, ih (by omega), h n (by omega)]; rfl
theorem range_fin (n : Nat) (f : Nat → Nat) : ((List.finRange n).map fun j => f j.1).sum = ((List.range n).map f).sum := by
  congr 1
  exact List.ext_getElem (by simp) (by intro i h1 h2; simp)
theorem counts_math (o w m : ByteArray) : bitsN o (tornB o w m) = sumTo o w m o.size := by
  rw [bitsN_eq]
  unfold sumTo
  rw [← range_fin]
  congr 1
  apply List.map_congr_left
  intro j _
  rw [tornB_byte _ _ _ _ _ j.2, law_went]
  rfl
theorem went_zero (o w m : ByteArray) (k : Nat) (h : ¬ (k < o.size ∧ k < m.size ∧ k < w.size)) : ∀ j, k ≤ j → wentF o w m j = 0 := by
  intro j hj
  unfold wentF
  rcases (show o.size ≤ j ∨ m.size ≤ j ∨ w.size ≤ j from by omega) with h | h | h
  · rw [byteOr_ge o _ _ h]; simp
  · rw [byteOr_ge m _ _ h]; simp
  · rw [byteOr_ge w _ _ h, law_n255]; simp

theorem kern (x : UInt8) (h : x ≠ 0) : popc (x &&& (x - 1)) + 1 = popc x ∧ (x &&& (x - 1)).toNat < x.toNat ∧ (x - 1).toNat = x.toNat - 1 := by
  obtain ⟨v, rfl⟩ : ∃ v : Fin 256, x = UInt8.ofNat v.1 := ⟨⟨x.toNat, x.toNat_lt⟩, by simp⟩
  revert h
  revert v
  decide +kernel

set_option maxHeartbeats 1000000 in
theorem counts (o wt m : ByteArray) (ho : o.size ≤ maxLen) (hw : wt.size ≤ maxLen) (hm : m.size ≤ maxLen) (w : World) :
    Calls Try.prog 6 #[.string o, .string wt, .string m] w fun e w' => e = .returned (.bool true) ∧ Below w.heap.size w w' := by
  cases hL : longL [o, wt, m]
  · have hl := hL
    simp [longL] at hl
    obtain ⟨h1, h2, h3⟩ := hl
    have hso : o.size ≤ 140737488355328 := by omega
    have hB0 : Below w.heap.size w (w.alloc (.cells #[.string o, .string wt, .string m] 9)) := (Below.refl _ w).alloc (Nat.le_refl _) _
    go_enter Try.func6, Try.ntmps6
    go_wp2_with (first | (with_reducible refine (long3 _ _ _ ho hw hm _).mono ?_; rintro e w1 ⟨rfl, rfl⟩) | (with_reducible refine (shown_any _).mono ?_; rintro e w2 ⟨rfl, hb1⟩))
    have hB1 := hB0.trans (hb1.mono hB0.size)
    go_loopw [7, 8] (fun v i wr => ∃ k : Nat, k ≤ o.size ∧ i = .int .i64 k ∧ v = .int .i64 (sumTo o wt m k : Int) ∧ Below w.heap.size w wr) (fun _ i _ => o.size - (intOf i).toNat)
    case atStart => exact ⟨0, by omega, rfl, rfl, hB1⟩
    case round =>
      obtain ⟨k, hk, rfl, rfl, hbr⟩ := hrel
      by_cases hlt : k < o.size ∧ k < m.size ∧ k < wt.size
      · obtain ⟨hko, hkm, hkw⟩ := hlt
        have hbf : wentF o wt m k = (o[k] &&& ~~~(wt[k]) &&& m[k]) := by unfold wentF; rw [byteOr_lt _ _ _ hko, byteOr_lt _ _ _ hkm, byteOr_lt _ _ _ hkw]
        have hz := u8_andNot2 o[k] wt[k]
        have hz2 := u8_and2 (o[k] &&& ~~~(wt[k])) m[k]
        have hs := sumTo_succ o wt m k
        have hsl := sumTo_le o wt m k
        rw [← hbf] at hz2
        clear hbf
        obtain ⟨x0, hx0⟩ : ∃ x0, x0 = wentF o wt m k := ⟨_, rfl⟩
        obtain ⟨y, hy⟩ : ∃ y, y = o[k] &&& ~~~(wt[k]) := ⟨_, rfl⟩
        obtain ⟨s, hs0⟩ : ∃ s, s = sumTo o wt m k := ⟨_, rfl⟩
        simp only [← hs0]
        rw [← hs0] at hs hsl
        rw [← hx0] at hz2 hs
        rw [← hy] at hz hz2
        have hp0 := popc_le x0
        have HS := Lib.hid hs
        clear hs hx0 hy hs0
        go_wp2
        go_region
        go_wp2
        go_loopw [7, 9] (fun v x wr2 => ∃ (c : Nat) (z : UInt8), v = .int .i64 ((s + c : Nat) : Int) ∧ x = .int .u8 (z.toNat : Int) ∧ c + popc z = popc x0 ∧ Below w.heap.size w wr2) (fun _ x _ => (intOf x).toNat)
        case atStart => exact ⟨0, x0, rfl, rfl, by omega, hbr.drew⟩
        case round =>
          obtain ⟨c, z, rfl, rfl, hcp, hbr2⟩ := hrel
          have hc8 := popc_le z
          by_cases hz0 : z = 0
          · subst hz0
            have hp : popc 0 = 0 := rfl
            have HC := Lib.hid (show s + c = sumTo o wt m (k + 1) by rw [HS.out]; omega)
            go_wp2
            go_roundw
            case rel => exact ⟨k + 1, by omega, by go_num, by rw [← HC.out], hbr2⟩
            case measure => simp [intOf]; omega
          · obtain ⟨k1, k2, k3⟩ := kern z hz0
            have hne : (((z.toNat : Nat) : Int) != 0) = true := by simp; intro h; exact hz0 (UInt8.toNat_inj.1 h)
            have hz1 : z.toNat ≠ 0 := fun h => hz0 (UInt8.toNat_inj.1 h)
            have h256 := z.toNat_lt
            have hwr : IntKind.u8.wrap ((z.toNat : Int) - 1) = ((z - 1).toNat : Int) := by rw [k3]; simp [IntKind.wrap, IntKind.signed, IntKind.bits]; omega
            have hand := u8_and2 z (z - 1)
            obtain ⟨z1, hz1'⟩ : ∃ z1, z1 = z - 1 := ⟨_, rfl⟩
            rw [← hz1'] at hand hwr k1 k2
            obtain ⟨z2, hz2'⟩ : ∃ z2, z2 = z &&& z1 := ⟨_, rfl⟩
            rw [← hz2'] at hand k1 k2
            clear hz1' hz2' k3
            go_wp2
            go_roundw
            case rel => exact ⟨c + 1, z2, by go_num, rfl, by omega, hbr2⟩
            case measure => simp [intOf]; omega
      · have hr := sumTo_rest o wt m k o.size (went_zero o wt m k hlt) hk
        have HM := Lib.hid (counts_math o wt m)
        rw [hr] at HM
        have hz3 : (tornB o wt m).size ≤ maxLen := by rw [tornB_size]; exact ho
        obtain ⟨s, hs0⟩ : ∃ s, s = sumTo o wt m k := ⟨_, rfl⟩
        rw [← hs0] at HM
        simp only [← hs0]
        clear hs0 hr
        have hd : k < o.size ∧ k < m.size ∧ wt.size ≤ k ∨ k < o.size ∧ m.size ≤ k ∨ o.size ≤ k := by omega
        clear hlt
        rcases hd with ⟨q1, q2, q3⟩ | ⟨q1, q2⟩ | q1
        all_goals
          go_wp2_with (first | (with_reducible refine (Torn_any _ _ _ hso hw hm _).mono ?_; rintro e x3 ⟨rfl, hc3⟩) | (with_reducible refine (Bits_any _ _ hso hz3 _).mono ?_; rintro e x6 ⟨rfl, hc6⟩))
          go_ret
          exact ⟨ret_bool (by rw [HM.out]; simp), bthen hbr (bthen hc3 hc6)⟩
  · have hB0 : Below w.heap.size w (w.alloc (.cells #[.string o, .string wt, .string m] 9)) := (Below.refl _ w).alloc (Nat.le_refl _) _
    go_enter Try.func6, Try.ntmps6
    go_wp2_with (first | (with_reducible refine (long3 _ _ _ ho hw hm _).mono ?_; rintro e w1 ⟨rfl, rfl⟩) | (with_reducible refine (shown_any _).mono ?_; rintro e w2 ⟨rfl, hb1⟩))
    go_ret
    exact ⟨rfl, hB0.trans (hb1.mono hB0.size)⟩
end Go.Proofs.Ytlkionloiofkhaa
