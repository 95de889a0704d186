/- The walk of the law RecordTorn. -/
import Derived.Test.YtclhdgolcaacbaaRefTorn
namespace Go.Proofs.Ytclhdgolcaacbaa
open Go.RowKit
set_option linter.unusedVariables false
set_option linter.unusedSimpArgs false

def fullB (n : Nat) : ByteArray := ⟨(List.replicate n (255 : UInt8)).toArray⟩
theorem fullB_size (n : Nat) : (fullB n).size = n := by show (List.replicate n (255 : UInt8)).toArray.size = n; simp
theorem fullB_succ (k : Nat) : fullB k ++ ⟨#[255]⟩ = fullB (k + 1) := by
  unfold fullB
  apply ByteArray.ext
  rw [ByteArray.data_append]
  apply Array.ext'
  simp [List.replicate_succ']

theorem ff_bad (X : ByteArray) (h : X.size = 22) : goodB (X ++ ⟨#[255, 255]⟩) = false := by
  unfold goodB
  rw [decide_eq_false_iff_not]
  intro e
  obtain ⟨_, h3, _⟩ := dec_facts _ e
  have hl : X.data.toList.length = 22 := by simpa using h
  have e1 : (X ++ ⟨#[255, 255]⟩).data.toList = X.data.toList ++ [255, 255] := by rw [ByteArray.data_append]; simp
  have h4 := congrArg (fun x : List UInt8 => x[4]?) h3
  simp only [List.getElem?_drop] at h4
  rw [List.getElem?_append_right (by rw [low_length]; omega), low_length, e1, List.getElem?_append_right (by omega), hl] at h4
  simp at h4

theorem torn_out (k n d : Int) (mask end_ : ByteArray) (hm : mask.size ≤ maxLen) (he : end_.size ≤ maxLen) (h : 100 < mask.size ∨ (mask.size ≤ 100 ∧ 100 < end_.size) ∨ (mask.size ≤ 100 ∧ end_.size ≤ 100 ∧ k < 1) ∨ (mask.size ≤ 100 ∧ end_.size ≤ 100 ∧ 1 ≤ k ∧ 3 < k)) (w : World) :
    Calls Try.prog 6 #[.agg #[.int .i64 k, .int .u64 n, .int .u64 d], .string mask, .string end_] w fun e w' => e = .returned (.bool true) ∧ Below w.heap.size w w' := by
  have B0 : Below w.heap.size w (w.alloc (.cells #[.int .i64 k, .int .u64 n, .int .u64 d] 24)) := (Below.refl _ w).alloc (Nat.le_refl _) _
  rcases h with g1 | ⟨g1, g2⟩ | ⟨g1, g2, g3⟩ | ⟨g1, g2, g3, g4⟩
  all_goals
    go_enter Try.func6, Try.ntmps6
    go_wp2_with (first | (with_reducible refine (shown_any _).mono ?_; rintro e w1 ⟨rfl, hb1⟩))
    go_ret
    exact ⟨rfl, bthen B0 hb1⟩

set_option maxHeartbeats 4000000 in
theorem torn_in (k : Int) (n d : Nat) (mask end_ : ByteArray) (g1 : 1 ≤ k) (g2 : k ≤ 3) (hn : n < 18446744073709551616) (hd : d < 18446744073709551616) (hm : mask.size ≤ 100) (he : end_.size ≤ 100) (w : World) :
    Calls Try.prog 6 #[.agg #[.int .i64 k, .int .u64 (n : Int), .int .u64 (d : Int)], .string mask, .string end_] w fun e w' => e = .returned (.bool true) ∧ Below w.heap.size w w' := by
  have B0 : Below w.heap.size w (w.alloc (.cells #[.int .i64 k, .int .u64 (n : Int), .int .u64 (d : Int)] 24)) := (Below.refl _ w).alloc (Nat.le_refl _) _
  have kR := Blk.new w 24 #[.int .i64 k, .int .u64 (n : Int), .int .u64 (d : Int)]
  have hk : (Lit.int .i64 k).wf = true := by simp [Lit.wf, IntKind.min, IntKind.max, IntKind.signed, IntKind.bits]; omega
  have hB : ∀ W, Calls Try.prog 10 #[.agg #[.int .i64 k, .int .u64 (n : Int), .int .u64 (d : Int)]] W fun e w' => e = .returned (.string (bodyB k n d)) ∧ Below W.heap.size W w' := fun W => Body_any k n d hk hn hd W
  have hz := bodyB_size k n d
  have HDB := Lib.hid (fun m hm => dec_body k n d m hm g1 g2 hn hd)
  have hkn : ((k.toNat : Nat) : Int) = k := Int.toNat_of_nonneg (by omega)
  have HKN := Lib.hid hkn
  clear hkn
  obtain ⟨S, hS⟩ : ∃ S, S = bodyB k n d := ⟨_, rfl⟩
  rw [← hS] at hB hz HDB
  clear hS
  go_enter Try.func6, Try.ntmps6
  go_wp2_with (with_reducible refine (shown_any _).mono ?_)
  rintro e w1 ⟨rfl, b1⟩
  have k1 := kR.below b1 kR.lt
  have B1 := bthen B0 b1
  clear kR b1 B0
  go_wp2_with fail
  go_loopw [7, 8] (fun v i wr => ∃ j : Nat, j ≤ 22 ∧ i = .int .i64 j ∧ v = .string (fullB j) ∧ wr = w1) (fun _ i _ => 22 - (intOf i).toNat)
  case atStart => exact ⟨0, by omega, rfl, rfl, rfl⟩
  case round =>
    obtain ⟨j, hj, rfl, rfl, rfl⟩ := hrel
    by_cases hlt : j < 22
    · have hcat := Lib.hid (fullB_succ j)
      have hfs := fullB_size j
      go_wp2
      go_roundw
      case rel => exact ⟨j + 1, by omega, by go_num, by rw [← hcat.out], by trivial⟩
      case measure => simp [intOf]; omega
    · have hj2 : j = 22 := by omega
      subst hj2
      obtain ⟨F, hF⟩ : ∃ F, F = fullB 22 := ⟨_, rfl⟩
      have hFs : F.size = 22 := by rw [hF]; exact fullB_size 22
      simp only [← hF]
      clear hF
      have r0 := k1.cell 0
      have r1 := k1.cell 1
      have r2 := k1.cell 2
      go_wp2_with (with_reducible refine (hB _).mono ?_)
      rintro e w2 ⟨rfl, b2⟩
      have k2 := k1.below b2 k1.lt
      have B2 := bthen B1 b2
      clear r0 r1 r2 k1 b2 B1
      go_wp2_with (with_reducible refine (rTorn_any F S mask (by omega) _).mono ?_)
      rintro e w3 ⟨⟨X, hX, rfl⟩, b3⟩
      have k3 := k2.below b3 k2.lt
      have B3 := bthen B2 b3
      clear k2 b3 B2
      rw [hFs] at hX
      have hXs : (X ++ ⟨#[255, 255]⟩).size ≤ maxLen := by rw [ByteArray.size_append, hX]; decide
      have hbad := ff_bad X hX
      go_wp2_with (with_reducible refine (Good_any (X ++ ⟨#[255, 255]⟩) hXs _).mono ?_)
      rintro e w4 ⟨rfl, b4⟩
      have k4 := k3.below b4 k3.lt
      have B4 := bthen B3 b4
      clear k3 b4 B3
      go_wp2_with (first | (with_reducible refine (Mark_any _).mono ?_; rintro e w5 ⟨rfl, rfl⟩) | (with_reducible refine (rTorn_any ⟨#[255, 255]⟩ ⟨#[90, 60]⟩ end_ (by decide) _).mono ?_))
      rintro e w6 ⟨⟨M, hM, rfl⟩, b6⟩
      have k6 := k4.below b6 k4.lt
      have B6 := bthen B4 b6
      clear k4 b6 B4
      have hM2 : M.size = 2 := hM
      clear hM
      have r0 := k6.cell 0
      have r1 := k6.cell 1
      have r2 := k6.cell 2
      go_wp2_with (with_reducible refine (hB _).mono ?_)
      rintro e w7 ⟨rfl, b7⟩
      have k7 := k6.below b7 k6.lt
      have B7 := bthen B6 b7
      clear r0 r1 r2 k6 b7 B6
      have hSM : (S ++ M).size ≤ maxLen := by rw [ByteArray.size_append, hz, hM2]; decide
      by_cases hmk : M = ⟨#[90, 60]⟩
      · have hdec := HDB.out M hM2
        rw [if_pos hmk] at hdec
        have hD : ∀ W, Calls Try.prog 17 #[.string (S ++ M)] W fun e w' => e = .returned (.tuple #[.agg #[.int .i64 k, .int .u64 (n : Int), .int .u64 (d : Int)], .int .i64 0]) ∧ Below W.heap.size W w' := fun W => by
          have h := Decode_any (S ++ M) hSM W
          rw [decV_of hdec, HKN.out] at h; exact h
        clear hdec
        subst hmk
        go_wp2_with (with_reducible refine (hD _).mono ?_)
        rintro e w8 ⟨rfl, b8⟩
        have k8 := (k7.below b8 k7.lt).alloc (.cells #[.int .i64 k, .int .u64 (n : Int), .int .u64 (d : Int)] 24)
        have B8 := (bthen B7 b8).alloc (bthen B7 b8).size (.cells #[.int .i64 k, .int .u64 (n : Int), .int .u64 (d : Int)] 24)
        have r0 := k8.cell 0
        have r1 := k8.cell 1
        have r2 := k8.cell 2
        go_wp2_with (first | (with_reducible refine (Mark_any _).mono ?_; rintro e w9 ⟨rfl, rfl⟩))
        go_ret
        exact ⟨rfl, B8⟩
      · have hdec := HDB.out M hM2
        rw [if_neg hmk] at hdec
        have hD : ∀ W, Calls Try.prog 17 #[.string (S ++ M)] W fun e w' => e = .returned (.tuple #[.agg #[.int .i64 0, .int .u64 0, .int .u64 0], .int .i64 9]) ∧ Below W.heap.size W w' := fun W => by
          have h := Decode_any (S ++ M) hSM W
          rw [decV_of hdec] at h; exact h
        clear hdec
        have hne : (M.toList == [90, 60]) = false := by
          rw [toList_data, beq_eq_false_iff_ne]; exact fun h => hmk (bytes_list h)
        go_wp2_with (with_reducible refine (hD _).mono ?_)
        rintro e w8 ⟨rfl, b8⟩
        have B8 := (bthen B7 b8).alloc (bthen B7 b8).size (.cells #[.int .i64 0, .int .u64 0, .int .u64 0] 24)
        go_wp2_with (first | (with_reducible refine (Mark_any _).mono ?_; rintro e w9 ⟨rfl, rfl⟩))
        go_ret
        exact ⟨rfl, B8⟩

theorem torn_walk (k n d : Int) (mask end_ : ByteArray) (hk : (Lit.int .i64 k).wf = true) (hn : (Lit.int .u64 n).wf = true) (hd : (Lit.int .u64 d).wf = true) (hm : mask.size ≤ maxLen) (he : end_.size ≤ maxLen) (w : World) :
    Calls Try.prog 6 #[.agg #[.int .i64 k, .int .u64 n, .int .u64 d], .string mask, .string end_] w fun e w' => e = .returned (.bool true) ∧ Below w.heap.size w w' := by
  by_cases h : 100 < mask.size ∨ (mask.size ≤ 100 ∧ 100 < end_.size) ∨ (mask.size ≤ 100 ∧ end_.size ≤ 100 ∧ k < 1) ∨ (mask.size ≤ 100 ∧ end_.size ≤ 100 ∧ 1 ≤ k ∧ 3 < k)
  · exact torn_out k n d mask end_ hm he h w
  · obtain ⟨n, rfl, a1⟩ := u64_val n hn
    obtain ⟨d, rfl, a2⟩ := u64_val d hd
    exact torn_in k n d mask end_ (by omega) (by omega) a1 a2 (by omega) (by omega) w
end Go.Proofs.Ytclhdgolcaacbaa
