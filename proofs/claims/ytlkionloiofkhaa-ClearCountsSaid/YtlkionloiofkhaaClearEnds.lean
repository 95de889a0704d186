/- shown, long, and the walk of the law ClearEnds. -/
import Derived.Test.YtlkionloiofkhaaClearAll
namespace Go.Proofs.Ytlkionloiofkhaa
open Go.RowKit Go.Shelf
attribute [local go_sem] Oper.semAt_some
set_option linter.unusedVariables false

def longL (l : List ByteArray) : Bool := l.any fun s => decide (500 < s.size)

theorem long_any (l : List ByteArray) (hl : l.length ≤ 100) (hsz : ∀ s ∈ l, s.size ≤ maxLen) (w : World) (B c : Nat) (hc : ∀ j (hj : j < l.length), w.cell? ⟨B, j, none⟩ = some (.string l[j])) :
    Calls Try.prog 7 #[.slice (some ⟨B, 0, none⟩) l.length c] w fun e w' => e = .returned (.bool (longL l)) ∧ w = w' := by
  go_enter Try.func7, Try.ntmps7
  go_wp2
  go_loopw [3] (fun i wr => ∃ k : Nat, k ≤ l.length ∧ i = .int .i64 k ∧ longL (l.take k) = false ∧ wr = w) (fun i _ => l.length - (intOf i).toNat)
  case atStart => exact ⟨0, by omega, rfl, rfl, rfl⟩
  case round =>
    obtain ⟨k, hk, rfl, hall, rfl⟩ := hrel
    by_cases hlt : k < l.length
    · have hck := hc k hlt
      have htk : longL (l.take (k + 1)) = (longL (l.take k) || decide (500 < l[k].size)) := by
        unfold longL; rw [List.take_succ_eq_append_getElem hlt, List.any_append]; simp only [List.any_cons, List.any_nil, Bool.or_false]
      have hsk := hsz l[k] (List.getElem_mem hlt)
      have hany : 500 < l[k].size → longL l = true := fun h => by
        unfold longL; rw [List.any_eq_true]; exact ⟨l[k], List.getElem_mem hlt, by simpa using h⟩
      obtain ⟨s, hs⟩ : ∃ s, s = l[k] := ⟨_, rfl⟩
      rw [← hs] at hck htk hsk hany
      clear hs hc hsz
      by_cases hb : 500 < s.size
      · have HA := Lib.hid (hany hb)
        clear hany htk
        go_wp2
        go_ret
        exact ⟨ret_bool HA.out.symm, rfl⟩
      · have d1 : decide (500 < (s.size : Int)) = false := by simp; omega
        have HT := Lib.hid (show longL (l.take (k + 1)) = false by rw [htk, hall]; simp; omega)
        clear hany htk
        go_wp2
        go_roundw
        case rel => exact ⟨k + 1, by omega, by go_num, HT.out, by trivial⟩
        case measure => simp [intOf]; omega
    · have hk2 : k = l.length := by omega
      subst hk2
      rw [List.take_length] at hall
      have HA := Lib.hid hall; clear hall
      go_wp2
      go_ret
      exact ⟨ret_bool HA.out.symm, rfl⟩

theorem shown_any (w : World) : Calls Try.prog 8 #[] w fun e w' => e = .returned (.bool true) ∧ Below w.heap.size w w' := by
  go_enter Try.func8, Try.ntmps8
  have s1 : (⟨#[255]⟩ : ByteArray).size ≤ 140737488355328 := by decide
  have s2 : (⟨#[255, 1]⟩ : ByteArray).size ≤ 140737488355328 := by decide
  have m1 : (⟨#[15]⟩ : ByteArray).size ≤ maxLen := by decide
  have m2 : (⟨#[129]⟩ : ByteArray).size ≤ maxLen := by decide
  have m3 : (⟨#[127]⟩ : ByteArray).size ≤ maxLen := by decide
  have m4 : (⟨#[14]⟩ : ByteArray).size ≤ maxLen := by decide
  have t1 := shown1
  have t2 := shown2
  have t3 := shown3
  have t4 := shown4
  have t5 := shown5
  go_wp2_with (first | (with_reducible refine (Torn_any _ _ _ s1 m1 m2 _).mono ?_; rintro e w1 ⟨rfl, hb1⟩) | (with_reducible refine (And_any _ _ s2 m1 _).mono ?_; rintro e w2 ⟨rfl, hb2⟩) | (with_reducible refine (May_any _ _ _ s1 m1 m3 _).mono ?_; rintro e w3 ⟨rfl, hb3⟩) | (with_reducible refine (May_any _ _ _ s1 m1 m4 _).mono ?_; rintro e w4 ⟨rfl, hb4⟩) | (with_reducible refine (Bits_any _ _ s1 m1 _).mono ?_; rintro e w5 ⟨rfl, hb5⟩))
  go_ret
  exact ⟨rfl, bthen (bthen (bthen (bthen hb1 hb2) hb3) hb4) hb5⟩

theorem long2 (a b : ByteArray) (ha : a.size ≤ maxLen) (hb : b.size ≤ maxLen) (w : World) :
    Calls Try.prog 7 #[.slice (some ⟨w.heap.size, 0, none⟩) 2 2] (w.alloc (.cells #[.string a, .string b] 9)) fun e w' => e = .returned (.bool (longL [a, b])) ∧ (w.alloc (.cells #[.string a, .string b] 9)) = w' :=
  long_any [a, b] (by simp) (by intro s hs; simp at hs; rcases hs with rfl | rfl <;> assumption) _ _ 2 (by intro j hj; match j, hj with | 0, _ | 1, _ => simp)
theorem long3 (a b c : ByteArray) (ha : a.size ≤ maxLen) (hb : b.size ≤ maxLen) (hc : c.size ≤ maxLen) (w : World) :
    Calls Try.prog 7 #[.slice (some ⟨w.heap.size, 0, none⟩) 3 3] (w.alloc (.cells #[.string a, .string b, .string c] 9)) fun e w' => e = .returned (.bool (longL [a, b, c])) ∧ (w.alloc (.cells #[.string a, .string b, .string c] 9)) = w' :=
  long_any [a, b, c] (by simp) (by intro s hs; simp at hs; rcases hs with rfl | rfl | rfl <;> assumption) _ _ 3 (by intro j hj; match j, hj with | 0, _ | 1, _ | 2, _ => simp)
theorem long4 (a b c d : ByteArray) (ha : a.size ≤ maxLen) (hb : b.size ≤ maxLen) (hc : c.size ≤ maxLen) (hd : d.size ≤ maxLen) (w : World) :
    Calls Try.prog 7 #[.slice (some ⟨w.heap.size, 0, none⟩) 4 4] (w.alloc (.cells #[.string a, .string b, .string c, .string d] 9)) fun e w' => e = .returned (.bool (longL [a, b, c, d])) ∧ (w.alloc (.cells #[.string a, .string b, .string c, .string d] 9)) = w' :=
  long_any [a, b, c, d] (by simp) (by intro s hs; simp at hs; rcases hs with rfl | rfl | rfl | rfl <;> assumption) _ _ 4 (by intro j hj; match j, hj with | 0, _ | 1, _ | 2, _ | 3, _ => simp)

theorem fullB_succ (k : Nat) : fullB k ++ ⟨#[255]⟩ = fullB (k + 1) := by
  unfold fullB
  apply ByteArray.ext
  rw [ByteArray.data_append]
  apply Array.ext'
  simp [List.replicate_succ']

set_option maxHeartbeats 1000000 in
theorem ends (o wt : ByteArray) (ho : o.size ≤ maxLen) (hw : wt.size ≤ maxLen) (w : World) :
    Calls Try.prog 4 #[.string o, .string wt] w fun e w' => e = .returned (.bool true) ∧ Below w.heap.size w w' := by
  cases hL : longL [o, wt]
  · have hl := hL
    simp [longL] at hl
    obtain ⟨h1, h2⟩ := hl
    have hso : o.size ≤ 140737488355328 := by omega
    go_enter Try.func4, Try.ntmps4
    have hB0 : Below w.heap.size w (w.alloc (.cells #[.string o, .string wt] 9)) := (Below.refl _ w).alloc (Nat.le_refl _) _
    go_wp2_with (first | (with_reducible refine (long2 _ _ ho hw _).mono ?_; rintro e w1 ⟨rfl, rfl⟩) | (with_reducible refine (shown_any _).mono ?_; rintro e w2 ⟨rfl, hb1⟩))
    have hB1 := hB0.trans (hb1.mono hB0.size)
    go_loopw [5, 6] (fun v i wr => ∃ k : Nat, k ≤ o.size ∧ i = .int .i64 k ∧ v = .string (fullB k) ∧ wr = w2) (fun _ i _ => o.size - (intOf i).toNat)
    case atStart => exact ⟨0, by omega, rfl, rfl, rfl⟩
    case round =>
      obtain ⟨k, hk, rfl, rfl, rfl⟩ := hrel
      by_cases hlt : k < o.size
      · have hcat := Lib.hid (fullB_succ k)
        have hfs := fullB_size k
        go_wp2
        go_roundw
        case rel => exact ⟨k + 1, by omega, by go_num, by rw [← hcat.out], by trivial⟩
        case measure => simp [intOf]; omega
      · have hk2 : k = o.size := by omega
        subst hk2
        have hz := fullB_size o.size
        have hz2 : (fullB o.size).size ≤ maxLen := by rw [hz]; exact ho
        have hz3 : (andB o wt).size ≤ 140737488355328 := by rw [andB_size]; exact hso
        have t1 := ends1 o wt
        have t2 := ends2 o wt
        have t3 := ends3 o wt
        have t4 := ends4 o
        have t5 := ends5 o wt
        have t6 := ends6 o
        have hme : (⟨#[]⟩ : ByteArray).size ≤ maxLen := by decide
        go_wp2_with (first | (with_reducible refine (And_any _ _ hso hw _).mono ?_; rintro e x1 ⟨rfl, hc1⟩) | (with_reducible refine (Torn_any _ _ _ hso hw hme _).mono ?_; rintro e x2 ⟨rfl, hc2⟩) | (with_reducible refine (Torn_any _ _ _ hso hw hz2 _).mono ?_; rintro e x3 ⟨rfl, hc3⟩) | (with_reducible refine (And_any _ _ hz3 hw _).mono ?_; rintro e x4 ⟨rfl, hc4⟩) | (with_reducible refine (And_any _ _ hso hz2 _).mono ?_; rintro e x5 ⟨rfl, hc5⟩) | (with_reducible refine (Bits_any _ _ hz3 hme _).mono ?_; rintro e x6 ⟨rfl, hc6⟩) | (with_reducible refine (Bits_any _ _ hso ho _).mono ?_; rintro e x7 ⟨rfl, hc7⟩))
        go_ret
        exact ⟨rfl, bthen hB1 (bthen (bthen (bthen (bthen (bthen (bthen hc1 hc2) hc3) hc4) hc5) hc6) hc7)⟩
  · go_enter Try.func4, Try.ntmps4
    have hB0 : Below w.heap.size w (w.alloc (.cells #[.string o, .string wt] 9)) := (Below.refl _ w).alloc (Nat.le_refl _) _
    go_wp2_with (first | (with_reducible refine (long2 _ _ ho hw _).mono ?_; rintro e w1 ⟨rfl, rfl⟩) | (with_reducible refine (shown_any _).mono ?_; rintro e w2 ⟨rfl, hb1⟩))
    go_ret
    exact ⟨rfl, hB0.trans (hb1.mono hB0.size)⟩
end Go.Proofs.Ytlkionloiofkhaa
