/- The walk of the law ClearTwice. -/
import Derived.Test.YtlkionloiofkhaaClearEnds
namespace Go.Proofs.Ytlkionloiofkhaa
open Go.RowKit Go.Shelf
attribute [local go_sem] Oper.semAt_some
set_option linter.unusedVariables false

theorem u8_or2 (x y : UInt8) : bits .or .u8 (x.toNat : Int) (y.toNat : Int) = ((x ||| y).toNat : Int) := by
  rw [u8_or_nat _ _ x.toNat_lt y.toNat_lt, ← UInt8.toNat_or]

/-- the first k bytes of what f tells -/
def upB (f : Nat → UInt8) (k : Nat) : ByteArray := ⟨((List.range k).map f).toArray⟩
theorem upB_size (f : Nat → UInt8) (k : Nat) : (upB f k).size = k := by show ((List.range k).map f).toArray.size = k; simp
theorem upB_zero (f : Nat → UInt8) : upB f 0 = ⟨#[]⟩ := rfl
theorem upB_succ (f : Nat → UInt8) (k : Nat) : upB f k ++ ⟨#[f k]⟩ = upB f (k + 1) := by
  unfold upB
  apply ByteArray.ext
  rw [ByteArray.data_append]
  apply Array.ext'
  simp [List.range_succ]
theorem upB_byte (f : Nat → UInt8) (k : Nat) (d : UInt8) (j : Nat) (h : j < k) : byteOr (upB f k) d j = f j := by
  unfold byteOr upB; simp [h]

/-- string([]byte{x}) -/
theorem conv_one (w : World) (x : UInt8) : (convert 26 9 (.slice (some ⟨w.heap.size, 0, none⟩) 1 1)).run Try.prog (w.alloc (.cells #[.int .u8 (x.toNat : Int)] 5)) = .ok (.string ⟨#[x]⟩) (w.alloc (.cells #[.int .u8 (x.toNat : Int)] 5)) :=
  conv_cells _ w.heap.size 0 1 [x] (by intro j hj; match j, hj with | 0, _ => simp)

def bothF (a b : ByteArray) (j : Nat) : UInt8 := byteOr a 0 j ||| byteOr b 0 j
theorem twice_math (o w a b : ByteArray) : tornB (tornB o w a) w b = tornB o w (upB (bothF a b) o.size) := bytes_eq (by rw [tornB_size, tornB_size, tornB_size]) fun j hj => by
  rw [tornB_size] at hj
  have hj' := hj; rw [tornB_size] at hj'
  rw [tornB_byte _ _ _ _ _ hj, tornB_byte _ _ _ _ _ hj', tornB_byte _ _ _ _ _ hj', upB_byte _ _ _ _ hj', law_twice]
  rfl

set_option maxHeartbeats 1000000 in
theorem twice (o wt a b : ByteArray) (ho : o.size ≤ maxLen) (hw : wt.size ≤ maxLen) (ha : a.size ≤ maxLen) (hb : b.size ≤ maxLen) (w : World) :
    Calls Try.prog 5 #[.string o, .string wt, .string a, .string b] w fun e w' => e = .returned (.bool true) ∧ Below w.heap.size w w' := by
  cases hL : longL [o, wt, a, b]
  · have hl := hL
    simp [longL] at hl
    obtain ⟨h1, h2, h3, h4⟩ := hl
    have hso : o.size ≤ 140737488355328 := by omega
    go_enter Try.func5, Try.ntmps5
    have hB0 : Below w.heap.size w (w.alloc (.cells #[.string o, .string wt, .string a, .string b] 9)) := (Below.refl _ w).alloc (Nat.le_refl _) _
    go_wp2_with (first | (with_reducible refine (long4 _ _ _ _ ho hw ha hb _).mono ?_; rintro e w1 ⟨rfl, rfl⟩) | (with_reducible refine (shown_any _).mono ?_; rintro e w2 ⟨rfl, hb1⟩))
    have hB1 := hB0.trans (hb1.mono hB0.size)
    go_loopw [9, 10] (fun v i wr => ∃ k : Nat, k ≤ o.size ∧ i = .int .i64 k ∧ v = .string (upB (bothF a b) k) ∧ Below w.heap.size w wr) (fun _ i _ => o.size - (intOf i).toNat)
    case atStart => exact ⟨0, by omega, rfl, rfl, hB1⟩
    case round =>
      obtain ⟨k, hk, rfl, rfl, hbr⟩ := hrel
      by_cases hlt : k < o.size
      · have hcat := upB_succ (bothF a b) k
        have hfs := upB_size (bothF a b) k
        have hcv := conv_one wr (bothF a b k)
        have hbw := hbr.alloc hbr.size (.cells #[.int .u8 ((bothF a b k).toNat : Int)] 5)
        have hbf : bothF a b k = (byteOr a 0 k ||| byteOr b 0 k) := rfl
        obtain ⟨x, hx⟩ : ∃ x, x = bothF a b k := ⟨_, rfl⟩
        rw [← hx] at hcat hcv hbf hbw
        have HC := Lib.hid hcat; clear hcat
        have HB := Lib.hid hbw; clear hbw hx
        by_cases hka : k < a.size
        · have ea := byteOr_lt a 0 k hka
          by_cases hkb : k < b.size
          · have eb := byteOr_lt b 0 k hkb
            have ho := u8_or2 a[k] b[k]
            rw [← ea, ← eb, ← hbf, ea, eb] at ho
            clear ea eb hbf
            go_wp2
            go_roundw
            case rel => exact ⟨k + 1, by omega, by go_num, by rw [← HC.out], HB.out⟩
            case measure => simp [intOf]; omega
          · have eb := byteOr_ge b 0 k (by omega)
            have hxa : x = a[k] := by rw [hbf, ea, eb]; simp
            subst hxa
            clear ea eb hbf
            go_wp2
            go_roundw
            case rel => exact ⟨k + 1, by omega, by go_num, by rw [← HC.out], HB.out⟩
            case measure => simp [intOf]; omega
        · have ea := byteOr_ge a 0 k (by omega)
          by_cases hkb : k < b.size
          · have eb := byteOr_lt b 0 k hkb
            have ho : bits .or .u8 0 (b[k].toNat : Int) = (x.toNat : Int) := by rw [hbf, ea, eb]; exact u8_or2 0 b[k]
            clear ea eb hbf
            go_wp2
            go_roundw
            case rel => exact ⟨k + 1, by omega, by go_num, by rw [← HC.out], HB.out⟩
            case measure => simp [intOf]; omega
          · have eb := byteOr_ge b 0 k (by omega)
            have hxa : x = 0 := by rw [hbf, ea, eb]; rfl
            subst hxa
            rw [show (((0 : UInt8).toNat : Nat) : Int) = 0 from rfl] at hcv
            clear ea eb hbf
            go_wp2
            go_roundw
            case rel => exact ⟨k + 1, by omega, by go_num, by rw [← HC.out], HB.out⟩
            case measure => simp [intOf]; omega
      · have hk2 : k = o.size := by omega
        subst hk2
        have hz := upB_size (bothF a b) o.size
        have hz2 : (upB (bothF a b) o.size).size ≤ maxLen := by rw [hz]; exact ho
        have hz3 : (tornB o wt a).size ≤ 140737488355328 := by rw [tornB_size]; exact hso
        have HM := Lib.hid (twice_math o wt a b)
        obtain ⟨X, hX⟩ : ∃ X, X = upB (bothF a b) o.size := ⟨_, rfl⟩
        rw [← hX] at hz2 HM
        simp only [← hX]
        clear hX hz
        go_wp2_with (first | (with_reducible refine (Torn_any _ _ _ hso hw ha _).mono ?_; rintro e x1 ⟨rfl, hc1⟩) | (with_reducible refine (Torn_any _ _ _ hz3 hw hb _).mono ?_; rintro e x2 ⟨rfl, hc2⟩) | (with_reducible refine (Torn_any _ _ _ hso hw hz2 _).mono ?_; rintro e x3 ⟨rfl, hc3⟩))
        go_ret
        exact ⟨ret_bool (by rw [HM.out]; simp), bthen hbr (bthen (bthen hc1 hc2) hc3)⟩
  · go_enter Try.func5, Try.ntmps5
    have hB0 : Below w.heap.size w (w.alloc (.cells #[.string o, .string wt, .string a, .string b] 9)) := (Below.refl _ w).alloc (Nat.le_refl _) _
    go_wp2_with (first | (with_reducible refine (long4 _ _ _ _ ho hw ha hb _).mono ?_; rintro e w1 ⟨rfl, rfl⟩) | (with_reducible refine (shown_any _).mono ?_; rintro e w2 ⟨rfl, hb1⟩))
    go_ret
    exact ⟨rfl, hB0.trans (hb1.mono hB0.size)⟩
end Go.Proofs.Ytlkionloiofkhaa
