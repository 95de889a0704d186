/- The walk of the law ClearMay. -/
import Derived.Test.YtlkionloiofkhaaClearTwice
import Derived.Deep.RegionWith
namespace Go.Proofs.Ytlkionloiofkhaa
open Go.RowKit Go.Shelf
attribute [local go_sem] Oper.semAt_some
set_option linter.unusedVariables false

theorem conv_oned (w : World) (x : UInt8) : (convert 26 9 (.slice (some ⟨w.heap.size, 0, none⟩) 1 1)).run Try.prog (w.alloc (.cells #[.int .u8 (x.toNat : Int)] 5)).drew = .ok (.string ⟨#[x]⟩) (w.alloc (.cells #[.int .u8 (x.toNat : Int)] 5)).drew :=
  conv_cells _ w.heap.size 0 1 [x] (by intro j hj; match j, hj with | 0, _ => simp)

def goneF (o g : ByteArray) (j : Nat) : UInt8 := byteOr o 0 j &&& ~~~(byteOr g 0 j)
theorem may_torn (o w m : ByteArray) : mayB o w (tornB o w m) = true := (mayB_iff _ _ _).2 ⟨tornB_size _ _ _, fun j hj => by
  rw [tornB_byte _ _ _ _ _ hj]; exact ⟨law_may1 _ _ _, law_may2 _ _ _⟩⟩
theorem may_gone (o w g : ByteArray) (h : mayB o w g = true) : tornB o w (upB (goneF o g) o.size) = g := by
  obtain ⟨h1, h2⟩ := (mayB_iff _ _ _).1 h
  refine bytes_eq (by rw [tornB_size, h1]) fun j hj => ?_
  rw [tornB_size] at hj
  rw [tornB_byte _ _ _ _ _ hj, upB_byte _ _ _ _ hj]
  exact law_may3 _ _ _ (h2 j hj).1 (h2 j hj).2

set_option maxHeartbeats 1000000 in
theorem mays (o wt m g : ByteArray) (ho : o.size ≤ maxLen) (hw : wt.size ≤ maxLen) (hm : m.size ≤ maxLen) (hg : g.size ≤ maxLen) (w : World) :
    Calls Try.prog 3 #[.string o, .string wt, .string m, .string g] w fun e w' => e = .returned (.bool true) ∧ Below w.heap.size w w' := by
  cases hL : longL [o, wt, m, g]
  · have hl := hL
    simp [longL] at hl
    obtain ⟨h1, h2, h3, h4⟩ := hl
    have hso : o.size ≤ 140737488355328 := by omega
    have t1 := may_torn o wt m
    have hz1 : (tornB o wt m).size ≤ maxLen := by rw [tornB_size]; exact ho
    have hB0 : Below w.heap.size w (w.alloc (.cells #[.string o, .string wt, .string m, .string g] 9)) := (Below.refl _ w).alloc (Nat.le_refl _) _
    cases hY : mayB o wt g
    · go_enter Try.func3, Try.ntmps3
      go_wp2_with (first | (with_reducible refine (long4 _ _ _ _ ho hw hm hg _).mono ?_; rintro e w1 ⟨rfl, rfl⟩) | (with_reducible refine (shown_any _).mono ?_; rintro e w2 ⟨rfl, hb1⟩) | (with_reducible refine (Torn_any _ _ _ hso hw hm _).mono ?_; rintro e w3 ⟨rfl, hb2⟩) | (with_reducible refine (May_any _ _ _ hso hw hz1 _).mono ?_; rintro e w4 ⟨rfl, hb3⟩) | (with_reducible refine (May_any _ _ _ hso hw hg _).mono ?_; rintro e w5 ⟨rfl, hb4⟩))
      go_ret
      exact ⟨rfl, bthen (hB0.trans (hb1.mono hB0.size)) (bthen (bthen hb2 hb3) hb4)⟩
    · have hgs := ((mayB_iff _ _ _).1 hY).1
      have HM := Lib.hid (may_gone o wt g hY)
      go_enter Try.func3, Try.ntmps3
      go_wp2_with (first | (with_reducible refine (long4 _ _ _ _ ho hw hm hg _).mono ?_; rintro e w1 ⟨rfl, rfl⟩) | (with_reducible refine (shown_any _).mono ?_; rintro e w2 ⟨rfl, hb1⟩) | (with_reducible refine (Torn_any _ _ _ hso hw hm _).mono ?_; rintro e w3 ⟨rfl, hb2⟩) | (with_reducible refine (May_any _ _ _ hso hw hz1 _).mono ?_; rintro e w4 ⟨rfl, hb3⟩) | (with_reducible refine (May_any _ _ _ hso hw hg _).mono ?_; rintro e w5 ⟨rfl, hb4⟩))
      have hB1 := bthen (hB0.trans (hb1.mono hB0.size)) (bthen (bthen hb2 hb3) hb4)
      go_loopw [9, 10] (fun v i wr => ∃ k : Nat, k ≤ o.size ∧ i = .int .i64 k ∧ v = .string (upB (goneF o g) k) ∧ Below w.heap.size w wr) (fun _ i _ => o.size - (intOf i).toNat)
      case atStart => exact ⟨0, by omega, rfl, rfl, hB1⟩
      case round =>
        obtain ⟨k, hk, rfl, rfl, hbr⟩ := hrel
        by_cases hlt : k < o.size
        · have hkg : k < g.size := by omega
          have hcat := upB_succ (goneF o g) k
          have hfs := upB_size (goneF o g) k
          have hcv := conv_oned wr (goneF o g k)
          have hbw := (hbr.alloc hbr.size (.cells #[.int .u8 ((goneF o g k).toNat : Int)] 5)).drew
          have hbf : goneF o g k = (o[k] &&& ~~~(g[k])) := by unfold goneF; rw [byteOr_lt _ _ _ hlt, byteOr_lt _ _ _ hkg]
          have hz := u8_andNot2 o[k] g[k]
          rw [← hbf] at hz
          clear hbf
          obtain ⟨x, hx⟩ : ∃ x, x = goneF o g k := ⟨_, rfl⟩
          rw [← hx] at hcat hcv hbw hz
          have HC := Lib.hid hcat; clear hcat
          have HB := Lib.hid hbw; clear hbw hx
          go_wp2
          go_region_with (fail)
          all_goals
            go_wp2
            go_roundw
            case rel => exact ⟨k + 1, by omega, by go_num, by rw [← HC.out], HB.out⟩
            case measure => simp [intOf]; omega
        · have hk2 : k = o.size := by omega
          subst hk2
          have hz := upB_size (goneF o g) o.size
          have hz2 : (upB (goneF o g) o.size).size ≤ maxLen := by rw [hz]; exact ho
          obtain ⟨X, hX⟩ : ∃ X, X = upB (goneF o g) o.size := ⟨_, rfl⟩
          rw [← hX] at hz2 HM
          simp only [← hX]
          have HG := Lib.hid hgs
          have hgi : ((g.size : Int) == (o.size : Int)) = true := by rw [hgs]; simp
          clear hX hz hgs
          go_wp2_with (first | (with_reducible refine (Torn_any _ _ _ hso hw hz2 _).mono ?_; rintro e x3 ⟨rfl, hc3⟩))
          go_ret
          exact ⟨ret_bool (by rw [HM.out]; simp), bthen hbr hc3⟩
  · have hB0 : Below w.heap.size w (w.alloc (.cells #[.string o, .string wt, .string m, .string g] 9)) := (Below.refl _ w).alloc (Nat.le_refl _) _
    go_enter Try.func3, Try.ntmps3
    go_wp2_with (first | (with_reducible refine (long4 _ _ _ _ ho hw hm hg _).mono ?_; rintro e w1 ⟨rfl, rfl⟩) | (with_reducible refine (shown_any _).mono ?_; rintro e w2 ⟨rfl, hb1⟩))
    go_ret
    exact ⟨rfl, hB0.trans (hb1.mono hB0.size)⟩
end Go.Proofs.Ytlkionloiofkhaa
