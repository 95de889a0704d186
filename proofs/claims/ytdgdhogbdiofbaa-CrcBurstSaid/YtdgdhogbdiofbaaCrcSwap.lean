/- The walk of the law CrcSwap. -/
import Derived.Test.YtdgdhogbdiofbaaCrcLaws
import Derived.Test.YtdgdhogbdiofbaaCalm
namespace Go.Proofs.Ytdgdhogbdiofbaa.Crc
open Go.RowKit
set_option linter.unusedVariables false

theorem eq_words (c d : W) : (((c.toNat : Int) == (d.toNat : Int)) = true) ↔ c = d := by
  rw [beq_iff_eq]
  constructor
  · intro h; exact BitVec.eq_of_toNat_eq (by omega)
  · rintro rfl; rfl

theorem eq_bytes (c d : UInt8) : (((c.toNat : Int) == (d.toNat : Int)) = true) ↔ c = d := by
  rw [beq_iff_eq]
  constructor
  · intro h; exact UInt8.toNat_inj.1 (by omega)
  · rintro rfl; rfl

theorem ext_list (s : ByteArray) (a b : Nat) : (s.extract a b).data.toList = (s.data.toList.drop a).take (b - a) := by simp

theorem app_list (s t : ByteArray) : (s ++ t).data.toList = s.data.toList ++ t.data.toList := by simp

theorem cut_at (l : List UInt8) (k : Nat) (h : k < l.length) : (l.drop k).take 1 = [l[k]] := by
  rw [List.drop_eq_getElem_cons h]; rfl

theorem swap_math (s t : ByteArray) (k : Nat) (h : k + 1 < s.size) (h' : k < s.size) (hT : t = s.extract 0 k ++ s.extract (k + 1) (k + 2) ++ s.extract k (k + 1) ++ s.extract (k + 2) s.size) :
    ((((sumS s).toNat : Int) == ((sumS t).toNat : Int)) == ((s[k].toNat : Int) == (s[k + 1].toNat : Int))) = true := by
  have hl : s.data.toList.length = s.size := by simp
  have e1 : t.data.toList = s.data.toList.take k ++ [s[k + 1], s[k]] ++ s.data.toList.drop (k + 2) := by
    rw [hT, app_list, app_list, app_list, ext_list, ext_list, ext_list, ext_list]
    rw [show k + 2 - (k + 1) = 1 from by omega, show k + 1 - k = 1 from by omega, cut_at _ (k + 1) (by omega), cut_at _ k (by omega)]
    rw [List.take_of_length_le (l := s.data.toList.drop (k + 2)) (by rw [List.length_drop]; omega)]
    simp [List.append_assoc]
    exact ⟨rfl, rfl⟩
  have e2 : s.data.toList = s.data.toList.take k ++ [s[k], s[k + 1]] ++ s.data.toList.drop (k + 2) := by
    conv => lhs; rw [← List.take_append_drop k s.data.toList]
    rw [List.drop_eq_getElem_cons (i := k) (by omega), List.drop_eq_getElem_cons (i := k + 1) (by omega)]
    simp [List.append_assoc]
    exact ⟨rfl, rfl⟩
  rw [beq_iff_eq, Bool.eq_iff_iff, eq_words, eq_bytes]
  unfold sumS
  rw [e1]
  conv => lhs; lhs; rw [e2]
  rw [sum_burst _ _ _ _ (by simp) (by simp)]
  simp
  exact fun h => h.symm

theorem swap_size (s t : ByteArray) (k : Nat) (h : s.size ≤ 300) (hT : t = s.extract 0 k ++ s.extract (k + 1) (k + 2) ++ s.extract k (k + 1) ++ s.extract (k + 2) s.size) : t.size ≤ maxLen := by
  rw [hT]
  simp only [ByteArray.size_append, ByteArray.size_extract]
  unfold maxLen
  omega

set_option maxHeartbeats 1000000 in
theorem swap (s : ByteArray) (at_ : Int) (hs : s.size ≤ maxLen) (ha : (Lit.int .i64 at_).wf = true) (w : World) :
    Calls Try.prog 6 #[.string s, .int .i64 at_] w fun e w' => e = .returned (.bool true) ∧ Below w.heap.size w w' := by
  clear ha
  by_cases h : 300 < s.size ∨ at_ < 0 ∨ (s.size : Int) - 1 ≤ at_
  · rcases (show 300 < s.size ∨ (s.size ≤ 300 ∧ at_ < 0) ∨ (s.size ≤ 300 ∧ 0 ≤ at_ ∧ (s.size : Int) - 1 ≤ at_) from by omega) with h | ⟨h, h2⟩ | ⟨h, h2, h3⟩
    · go_enter Try.func6, Try.ntmps6
      go_wp2_with (refine (shown_any _).mono ?_; rintro e w1 ⟨rfl, hb1⟩)
      go_ret
      exact ⟨rfl, hb1⟩
    · go_enter Try.func6, Try.ntmps6
      go_wp2_with (refine (shown_any _).mono ?_; rintro e w1 ⟨rfl, hb1⟩)
      go_ret
      exact ⟨rfl, hb1⟩
    · go_enter Try.func6, Try.ntmps6
      go_wp2_with (refine (shown_any _).mono ?_; rintro e w1 ⟨rfl, hb1⟩)
      go_ret
      exact ⟨rfl, hb1⟩
  · obtain ⟨k, rfl⟩ := Int.eq_ofNat_of_zero_le (a := at_) (by omega)
    have h1 : s.size ≤ 300 := by omega
    have h2 : k + 1 < s.size := by omega
    have h3 : k < s.size := by omega
    have h4 : (k : Int) + 1 < s.size := by omega
    have h5 : (k : Int) + 2 ≤ s.size := by omega
    have h6 : k + 2 ≤ s.size := by omega
    clear h
    go_enter Try.func6, Try.ntmps6
    go_wp2_with (refine (shown_any _).mono ?_; rintro e w1 ⟨rfl, hb1⟩)
    go_quiet (fail)
    go_wp2_with fail
    have hb1' : Below w.heap.size w (w1.drewN nq) := ⟨hb1.os, hb1.tape, hb1.output, hb1.size, hb1.block⟩
    generalize w1.drewN nq = W at *
    clear hb1
    obtain ⟨t, hT⟩ : ∃ t, t = s.extract 0 k ++ s.extract (k + 1) (k + 2) ++ s.extract k (k + 1) ++ s.extract (k + 2) s.size := ⟨_, rfl⟩
    rw [← hT]
    have HT := Lib.hid hT; clear hT
    have ht : t.size ≤ maxLen := swap_size s t k h1 HT.out
    have q1 : IntKind.i64.wrap ((k : Int) + 1) = (k : Int) + 1 := IntWalk.i64_in _ (by omega)
    have q2 : (0 : Int) ≤ (k : Int) + 1 := by omega
    have q3 : ((k : Int) + 1).toNat = k + 1 := by omega
    (refine wp_region_calm (W.heap.size) (by kernel_rfl) (by kernel_rfl) ?_; (repeat (go_big_quiet_step ((first | ((with_reducible refine calm_of (Nat.le_refl _) (Sum_any s hs _))) | ((with_reducible refine calm_of (Nat.le_refl _) (Sum_any t ht _))))))); refine wpQuiet_nil ?_; intro _ hw'; obtain ⟨⟨W2, hW2⟩, hw''⟩ := hw'; subst hw'')
    go_wp2
    go_ret
    exact ⟨ret_bool (swap_math s t k h2 h3 HT.out), hb1'.trans (hW2.mono hb1'.size)⟩
end Go.Proofs.Ytdgdhogbdiofbaa.Crc
