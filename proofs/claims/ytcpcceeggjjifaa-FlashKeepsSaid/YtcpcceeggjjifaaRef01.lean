/- dogwatchref01.at, And, Bits (where no bit went). -/
import Derived.Test.YtcpcceeggjjifaaAndB
import Derived.Test.YtcpcceeggjjifaaBytesApp
import Derived.Deep.RegionHeld3
import Derived.Deep.DrawnRows
namespace Go.Proofs.Ytcpcceeggjjifaa
open Go.RowKit
attribute [local go_sem ↓] Go.wp_at_zero Go.wp_at_succ
set_option linter.unusedVariables false
set_option linter.unusedSimpArgs false

theorem at_any (s : ByteArray) (i : Nat) (d : UInt8) (N : Int) (hN : N = (d.toNat : Int)) (hi : i < 1000) (w : World) :
    Calls Try.prog 27 #[.string s, .int .i64 (i : Int), .int .u8 N] w fun e w' => e = .returned (.int .u8 ((byteOr s d i).toNat : Int)) ∧ w = w' := by
  subst hN
  by_cases h : i < s.size
  · have e := byteOr_lt s d i h
    go_enter Try.func27, Try.ntmps27
    go_wp2
    go_ret
    exact ⟨ret_int (by rw [e]), rfl⟩
  · have e := byteOr_ge s d i (by omega)
    go_enter Try.func27, Try.ntmps27
    go_wp2
    go_ret
    exact ⟨ret_int (by rw [e]), rfl⟩

theorem take_byte (s : ByteArray) (k : Nat) (h : k < s.size) : s.data.toList.take (k + 1) = s.data.toList.take k ++ [byteOr s 0 k] := by
  rw [byteOr_lt s 0 k h, List.take_succ_eq_append_getElem (by simpa using h)]; rfl

set_option maxHeartbeats 2000000 in
theorem rAnd_any (o wt : ByteArray) (ho : o.size ≤ 500) (w : World) :
    Calls Try.prog 18 #[.string o, .string wt] w fun e w' => e = .returned (.string (andB o wt)) ∧ Below w.heap.size w w' := by
  have hz := andB_size o wt
  have hb := andB_byte o wt 0
  obtain ⟨X, hX⟩ : ∃ X, X = andB o wt := ⟨_, rfl⟩
  rw [← hX]
  rw [← hX] at hz
  simp only [← hX] at hb
  have HB := Lib.hid hb
  have HZ := Lib.hid hz
  have hxs : X.size ≤ 500 := by omega
  clear hX hb
  go_enter Try.func18, Try.ntmps18
  go_wp2
  go_loopw [5, 6] (fun v i wr => ∃ (k : Nat), k ≤ o.size ∧ i = .int .i64 k ∧ OwnsB wr w.heap.size v (X.data.toList.take k) ∧ Below w.heap.size w wr) (fun _ i _ => o.size - (intOf i).toNat)
  case atStart => exact ⟨0, by omega, rfl, by exact World.ownsRow_lit w #[] 0 (Nat.le_refl _) (by decide) rfl, (Below.refl _ w).alloc (Nat.le_refl _) _⟩
  case round =>
    obtain ⟨k, hk, rfl, hown, hbr⟩ := hrel
    by_cases hlt : k < o.size
    · have hk1 : k < 1000 := by omega
      have z1 := u8_and2 o[k] (byteOr wt 255 k)
      have hx := HB.out k hlt
      rw [byteOr_lt o 0 k hlt] at hx
      have hsn := take_byte X k (by omega)
      obtain ⟨y, hy⟩ : ∃ y, y = o[k] &&& byteOr wt 255 k := ⟨_, rfl⟩
      rw [← hy] at z1 hx
      rw [hx] at hsn
      have HN := Lib.hid hsn
      have hll : (X.data.toList.take k).length ≤ 500 := by rw [List.length_take]; omega
      have hg0 : (0 : Int) ≤ (k : Int) := by omega
      have hg1 : (k : Int) < (o.size : Int) := by omega
      clear hy hx hsn hz
      generalize X.data.toList.take k = l at *
      go_wp2_with fail
      go_region_held3 (fun _ => True) (trivial) (first | ((with_reducible refine (at_any wt k 255 255 rfl hk1 _).mono ?_); rintro e w3 ⟨rfl, rfl⟩) | (refine step_append_byte (b := y) (by rfl) _ _ (by rfl) (by rfl) (by rfl) hown (((Below.refl _ _).drew).alloc (by simp) _) (by simp) (by omega) (by simp; have := hbr.size; omega) ?_; intro v4 w4 ho4 hb4))
      all_goals
        have B4 := ((hbr.drew).alloc (by simpa using hbr.size) (.cells #[.int .u8 (y.toNat : Int)] 5)).trans hb4
        clear hb4 hown hbr
        go_wp2
        go_roundw
        case rel => exact ⟨k + 1, by omega, by go_num, by rw [HN.out]; exact ho4, B4⟩
        case measure => simp [intOf]; omega
    · have hk2 : k = o.size := by omega
      have ht : X.data.toList.take k = X.data.toList := List.take_of_length_le (by have := HZ.out; simp; omega)
      rw [ht] at hown
      have hcv := conv_own hown
      go_wp2
      go_ret
      exact ⟨rfl, hbr⟩

/-- one bit of a byte -/
theorem bit_of (x : UInt8) (b : Nat) (hb : b < 8) : bits .and .u8 ((x.toNat : Int) / 2 ^ b) 1 = if x.toBitVec.getLsbD b then 1 else 0 := by
  have h : x.toBitVec.getLsbD b = x.toNat.testBit b := rfl
  rw [h, Nat.testBit_eq_decide_div_mod_eq]
  have e : ((x.toNat : Int) / 2 ^ b) = ((x.toNat / 2 ^ b : Nat) : Int) := by norm_cast
  have hx := x.toNat_lt
  have h2 : x.toNat / 2 ^ b < 256 := Nat.lt_of_le_of_lt (Nat.div_le_self _ _) hx
  have e2 := u8_and_nat (x.toNat / 2 ^ b) 1 h2 (by decide)
  rw [e, show (1 : Int) = ((1 : Nat) : Int) from rfl, e2, Nat.and_one_is_mod]
  have : x.toNat / 2 ^ b % 2 < 2 := Nat.mod_lt _ (by decide)
  by_cases h3 : x.toNat / 2 ^ b % 2 = 1
  · simp [h3]
  · have h4 : x.toNat / 2 ^ b % 2 = 0 := by omega
    simp [h4]
theorem bit_imp {x y : UInt8} (h : (x &&& ~~~y) = 0) (b : Nat) (hb : b < 8) (hx : x.toBitVec.getLsbD b = true) : y.toBitVec.getLsbD b = true := by
  have e := congrArg (fun z : UInt8 => z.toBitVec.getLsbD b) h
  simp only [UInt8.toBitVec_and, UInt8.toBitVec_not, BitVec.getLsbD_and, BitVec.getLsbD_not, hb, decide_true, Bool.true_and, hx] at e
  cases hy : y.toBitVec.getLsbD b
  · rw [hy] at e; simp at e
  · rfl

set_option maxHeartbeats 2000000 in
theorem rBits_none (o g : ByteArray) (ho : o.size ≤ 500) (h : ∀ j, j < o.size → (byteOr o 0 j &&& ~~~(byteOr g 255 j)) = 0) (w : World) :
    Calls Try.prog 17 #[.string o, .string g] w fun e w' => e = .returned (.int .i64 0) ∧ w = w' := by
  have H := Lib.hid h
  clear h
  go_enter Try.func17, Try.ntmps17
  go_wp2
  go_loop [5, 6, 7] (fun n i b => ∃ (k : Nat), k ≤ o.size ∧ i = .int .i64 k ∧ n = .int .i64 0) (fun _ i _ => o.size - (intOf i).toNat)
  case atStart => exact ⟨0, by omega, rfl, rfl⟩
  case round =>
    obtain ⟨k, hk, rfl, rfl⟩ := hrel
    by_cases hlt : k < o.size
    · have hk1 : k < 1000 := by omega
      have hx := H.out k hlt
      rw [byteOr_lt o 0 k hlt] at hx
      have HX := Lib.hid hx
      clear hx
      go_wp2
      go_loop [5, 7] (fun n b => ∃ (j : Nat), j ≤ 8 ∧ b = .int .i64 j ∧ n = .int .i64 0) (fun _ b => 8 - (intOf b).toNat)
      case atStart => exact ⟨0, by omega, rfl, rfl⟩
      case round =>
        obtain ⟨j, hj, rfl, rfl⟩ := hrel
        by_cases hjl : j < 8
        · have hj64 : j < 64 := by omega
          have q1 := bit_of o[k] j hjl
          have q2 := bit_of (byteOr g 255 k) j hjl
          by_cases hb : o[k].toBitVec.getLsbD j = true
          · rw [if_pos hb] at q1
            rw [if_pos (bit_imp HX.out j hjl hb)] at q2
            clear hb
            go_wp2_with (with_reducible refine (at_any g k 255 255 rfl hk1 _).mono ?_; rintro e w3 ⟨rfl, rfl⟩)
            go_round
            case rel => exact ⟨j + 1, by omega, by go_num, rfl⟩
            case measure => simp [intOf]; omega
          · rw [if_neg hb] at q1
            clear hb q2
            go_wp2_with (with_reducible refine (at_any g k 255 255 rfl hk1 _).mono ?_; rintro e w3 ⟨rfl, rfl⟩)
            go_round
            case rel => exact ⟨j + 1, by omega, by go_num, rfl⟩
            case measure => simp [intOf]; omega
        · obtain rfl : j = 8 := by omega
          go_wp2
          go_round
          case rel => exact ⟨k + 1, by omega, by go_num, rfl⟩
          case measure => simp [intOf]; omega
    · obtain rfl : k = o.size := by omega
      go_wp2
      go_ret
      exact ⟨rfl, rfl⟩
end Go.Proofs.Ytcpcceeggjjifaa
