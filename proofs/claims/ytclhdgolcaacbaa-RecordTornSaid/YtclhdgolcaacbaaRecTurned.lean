/- The walk of the law RecordTurned. -/
import Derived.Test.YtclhdgolcaacbaaRecTurnM
namespace Go.Proofs.Ytclhdgolcaacbaa
open Go.RowKit
set_option linter.unusedVariables false
set_option linter.unusedSimpArgs false

theorem byte_val (n : Int) (h : (Lit.int .u8 n).wf = true) : ∃ b : UInt8, n = (b.toNat : Int) := by
  have h2 : 0 ≤ n ∧ n < 256 := by simp [Lit.wf, IntKind.min, IntKind.max, IntKind.signed, IntKind.bits] at h; omega
  refine ⟨UInt8.ofNat n.toNat, ?_⟩
  rw [UInt8.toNat_ofNat']; omega

theorem turned_out (k n d at_ a b c e : Int) (h : k < 1 ∨ (1 ≤ k ∧ 3 < k) ∨ (1 ≤ k ∧ k ≤ 3 ∧ at_ < 0) ∨ (1 ≤ k ∧ k ≤ 3 ∧ 0 ≤ at_ ∧ 20 < at_)) (w : World) :
    Calls Try.prog 8 #[.agg #[.int .i64 k, .int .u64 n, .int .u64 d], .int .i64 at_, .int .u8 a, .int .u8 b, .int .u8 c, .int .u8 e] w fun e w' => e = .returned (.bool true) ∧ Below w.heap.size w w' := by
  have B0 : Below w.heap.size w (w.alloc (.cells #[.int .i64 k, .int .u64 n, .int .u64 d] 24)) := (Below.refl _ w).alloc (Nat.le_refl _) _
  rcases h with g1 | ⟨g1, g2⟩ | ⟨g1, g2, g3⟩ | ⟨g1, g2, g3, g4⟩
  all_goals
    go_enter Try.func8, Try.ntmps8
    go_wp2_with (first | (with_reducible refine (shown_any _).mono ?_; rintro e w1 ⟨rfl, hb1⟩))
    go_ret
    exact ⟨rfl, bthen B0 hb1⟩

set_option maxHeartbeats 4000000 in
theorem turned_in (k : Int) (n d p : Nat) (a b c e : UInt8) (g1 : 1 ≤ k) (g2 : k ≤ 3) (hn : n < 18446744073709551616) (hd : d < 18446744073709551616) (hp : p ≤ 20) (w : World) :
    Calls Try.prog 8 #[.agg #[.int .i64 k, .int .u64 (n : Int), .int .u64 (d : Int)], .int .i64 (p : Int), .int .u8 (a.toNat : Int), .int .u8 (b.toNat : Int), .int .u8 (c.toNat : Int), .int .u8 (e.toNat : Int)] w fun e w' => e = .returned (.bool true) ∧ Below w.heap.size w w' := by
  have B0 : Below w.heap.size w (w.alloc (.cells #[.int .i64 k, .int .u64 (n : Int), .int .u64 (d : Int)] 24)) := (Below.refl _ w).alloc (Nat.le_refl _) _
  have kR := Blk.new w 24 #[.int .i64 k, .int .u64 (n : Int), .int .u64 (d : Int)]
  have hk : (Lit.int .i64 k).wf = true := by simp [Lit.wf, IntKind.min, IntKind.max, IntKind.signed, IntKind.bits]; omega
  have hE : ∀ W, Calls Try.prog 12 #[.agg #[.int .i64 k, .int .u64 (n : Int), .int .u64 (d : Int)]] W fun e w' => e = .returned (.string (encB k n d)) ∧ Below W.heap.size W w' := fun W => Encode_any k n d hk hn hd W
  have hz := encB_size k n d
  have HTM := Lib.hid (turned_math k n d p hp [a, b, c, e] rfl)
  have hdec := dec_enc k n d g1 g2 hn hd
  have HDE := Lib.hid hdec
  clear hdec
  obtain ⟨s, hs⟩ : ∃ s, s = encB k n d := ⟨_, rfl⟩
  rw [← hs] at hE hz HTM HDE
  clear hs
  have hcv := fun w : World => run_bytes_of_string (P := Try.prog) w 9 41 5 s Try.underlying9 Try.underlying41 Try.underlying5
  have d3 : decide (20 < (p : Int)) = false := by simp; omega
  go_enter Try.func8, Try.ntmps8
  go_wp2_with (with_reducible refine (shown_any _).mono ?_)
  rintro e0 w1 ⟨rfl, b1⟩
  have k1 := kR.below b1 kR.lt
  have B1 := bthen B0 b1
  clear kR b1 B0
  have r0 := k1.cell 0
  have r1 := k1.cell 1
  have r2 := k1.cell 2
  go_wp2_with (with_reducible refine (hE _).mono ?_)
  rintro e0 w2 ⟨rfl, b2⟩
  have k2 := k1.below b2 k1.lt
  have B2 := bthen B1 b2
  clear r0 r1 r2 k1 b2 B1
  have hsz := B2.size
  have hlt2 := k2.lt
  go_wp2_with fail
  have hr1 := (Row.ofString w2 s (grownCap w2 s.size 0 5) _ (bytesRow_size s (grownCap w2 s.size 0 5))).below (Below.refl _ _ |>.alloc (Nat.le_refl _) (.cells #[.int .u8 (a.toNat : Int), .int .u8 (b.toNat : Int), .int .u8 (c.toNat : Int), .int .u8 (e.toNat : Int)] 5)) (by simp)
  have hr2 := row4 (w2.alloc (.cells (bytesRow s (grownCap w2 s.size 0 5)) 5 ((bytesRow s (grownCap w2 s.size 0 5)).size, (bytesRow s (grownCap w2 s.size 0 5)).size + 1))) a b c e (w2.heap.size + 1) (by simp)
  have kk := (k2.alloc (.cells (bytesRow s (grownCap w2 s.size 0 5)) 5 ((bytesRow s (grownCap w2 s.size 0 5)).size, (bytesRow s (grownCap w2 s.size 0 5)).size + 1))).alloc (.cells #[.int .u8 (a.toNat : Int), .int .u8 (b.toNat : Int), .int .u8 (c.toNat : Int), .int .u8 (e.toNat : Int)] 5)
  have hbl := ((B2.alloc B2.size (.cells (bytesRow s (grownCap w2 s.size 0 5)) 5 ((bytesRow s (grownCap w2 s.size 0 5)).size, (bytesRow s (grownCap w2 s.size 0 5)).size + 1))).alloc (by simp; omega) (.cells #[.int .u8 (a.toNat : Int), .int .u8 (b.toNat : Int), .int .u8 (c.toNat : Int), .int .u8 (e.toNat : Int)] 5)).drew
  rw [hz] at hr1 hr2 hbl kk
  generalize grownCap w2 24 0 5 = C at *
  go_loopw [15] (fun i wr => ∃ j : Nat, j ≤ 4 ∧ i = .int .i64 j ∧ Row wr w2.heap.size (turned s.data.toList p [a, b, c, e] j) ∧ Row wr (w2.heap.size + 1) [a, b, c, e] ∧ Blk wr w.heap.size 24 #[.int .i64 k, .int .u64 (n : Int), .int .u64 (d : Int)] ∧ Below w.heap.size w wr) (fun i _ => 4 - (intOf i).toNat)
  case atStart => exact ⟨0, by omega, rfl, hr1, hr2, kk, hbl⟩
  case round =>
    obtain ⟨j, hj, rfl, h5, h6, kk2, hbr⟩ := hrel
    clear hr1 hr2 hbl kk k2 hcv
    by_cases hlt : j < 4
    · have hlen := turned_length s.data.toList p [a, b, c, e] j
      have hl2 : s.data.toList.length = 24 := by simpa using hz
      obtain ⟨x, hx⟩ : ∃ x, x = (turned s.data.toList p [a, b, c, e] j)[p + j]'(by omega) := ⟨_, rfl⟩
      obtain ⟨y, hy⟩ : ∃ y, y = [a, b, c, e][j]'(by simpa using hlt) := ⟨_, rfl⟩
      have c1 := (h5 (p + j) (by omega)).1
      have c2 := (h5 (p + j) (by omega)).2
      have c3 := (h6 j (by simpa using hlt)).1
      rw [← hx] at c1
      rw [← hy] at c3
      obtain ⟨z, hzz⟩ : ∃ z, z = x ^^^ y := ⟨_, rfl⟩
      have e1 : bits .xor .u8 (x.toNat : Int) (y.toNat : Int) = (z.toNat : Int) := by rw [u8_xor_nat _ _ x.toNat_lt y.toNat_lt, ← UInt8.toNat_xor, hzz]
      have q1 : IntKind.i64.wrap ((p : Int) + (j : Int)) = (p : Int) + (j : Int) := IntWalk.i64_in _ (by omega)
      have q2 : (0 : Int) ≤ (p : Int) + (j : Int) := by omega
      have q3 : ((p : Int) + (j : Int)).toNat = p + j := by omega
      have q4 : (p : Int) + (j : Int) < 24 := by omega
      have hset : turned s.data.toList p [a, b, c, e] (j + 1) = (turned s.data.toList p [a, b, c, e] j).set (p + j) z := by
        simp only [turned]
        rw [hzz, hx, hy, List.getD_eq_getElem?_getD, List.getElem?_eq_getElem (by omega), List.getD_eq_getElem?_getD, List.getElem?_eq_getElem (by simpa using hlt)]
        rfl
      have n5 := h5.drew.set (p + j) z
      have n6 := h6.drew.other ⟨w2.heap.size, p + j, none⟩ (by simp) (.int .u8 (z.toNat : Int))
      have n7 := kk2.drew.other ⟨w2.heap.size, p + j, none⟩ (by simp; omega) (.int .u8 (z.toNat : Int))
      have HSET := Lib.hid hset
      have H5 := Lib.hid n5
      have H6 := Lib.hid n6
      have H7 := Lib.hid n7
      clear hset n5 n6 n7 hzz hx hy h5 h6 kk2 hlen hl2
      go_wp2_with fail
      go_region
      go_wp2
      go_roundw
      case rel => exact ⟨j + 1, by omega, by go_num, by rw [HSET.out]; exact H5.out, H6.out, H7.out, (hbr.drew).setCell (by simp; exact hsz) _⟩
      case measure => simp [intOf]; omega
    · have hj4 : j = 4 := by omega
      subst hj4
      obtain ⟨X, hX⟩ : ∃ X : ByteArray, X = ⟨(turned s.data.toList p [a, b, c, e] 4).toArray⟩ := ⟨_, rfl⟩
      have hl2 : s.data.toList.length = 24 := by simpa using hz
      have hcv2 : (convert 41 9 (.slice (some ⟨w2.heap.size, 0, none⟩) 24 C)).run Try.prog wr = .ok (.string X) wr := by
        have hc := conv_cells wr w2.heap.size 0 C (turned s.data.toList p [a, b, c, e] 4) (fun i hi => by rw [Nat.zero_add]; exact (h5 i hi).1)
        rw [turned_length, hl2] at hc
        rw [hX]; exact hc
      have hXs : X.size ≤ maxLen := by rw [hX]; show (turned s.data.toList p [a, b, c, e] 4).toArray.size ≤ maxLen; rw [List.size_toArray, turned_length, hl2]; decide
      have hV := fun W => Decode_any X hXs W
      unfold decV at hV
      by_cases hde : decE X = 0
      · obtain ⟨hall, hXe⟩ := HTM.out X hX hde
        have hdX : dec X = (k.toNat, n, d, 0) := by rw [hXe]; exact HDE.out
        have hD : ∀ W, Calls Try.prog 17 #[.string X] W fun e w' => e = .returned (.tuple #[.agg #[.int .i64 k, .int .u64 (n : Int), .int .u64 (d : Int)], .int .i64 0]) ∧ Below W.heap.size W w' := fun W => by
          have h := Decode_any X hXs W
          rw [decV_of hdX, Int.toNat_of_nonneg (by omega)] at h; exact h
        simp at hall
        obtain ⟨rfl, rfl, rfl, rfl⟩ := hall
        clear hX h5 h6 hV hde hXe hdX
        go_wp2_with (with_reducible refine (hD _).mono ?_)
        rintro e0 w3 ⟨rfl, b3⟩
        have k3 := (kk2.below b3 kk2.lt).alloc (.cells #[.int .i64 k, .int .u64 (n : Int), .int .u64 (d : Int)] 24)
        have r0 := k3.cell 0
        have r1 := k3.cell 1
        have r2 := k3.cell 2
        go_wp2_with fail
        go_ret
        exact ⟨rfl, (bthen hbr b3).alloc (bthen hbr b3).size _⟩
      · obtain ⟨E, hEE⟩ : ∃ E, E = decE X := ⟨_, rfl⟩
        rw [← hEE] at hV hde
        have g4 : (E != 0) = true := by simpa using hde
        clear hX h5 h6 hEE
        go_wp2_with (first | (with_reducible refine (hV _).mono ?_; rintro e0 w3 ⟨rfl, b3⟩))
        go_ret
        exact ⟨rfl, (bthen hbr b3).alloc (bthen hbr b3).size _⟩

theorem turned_walk (k n d at_ a b c e : Int) (hk : (Lit.int .i64 k).wf = true) (hn : (Lit.int .u64 n).wf = true) (hd : (Lit.int .u64 d).wf = true) (hat : (Lit.int .i64 at_).wf = true) (ha : (Lit.int .u8 a).wf = true) (hb : (Lit.int .u8 b).wf = true) (hc : (Lit.int .u8 c).wf = true) (he : (Lit.int .u8 e).wf = true) (w : World) :
    Calls Try.prog 8 #[.agg #[.int .i64 k, .int .u64 n, .int .u64 d], .int .i64 at_, .int .u8 a, .int .u8 b, .int .u8 c, .int .u8 e] w fun e w' => e = .returned (.bool true) ∧ Below w.heap.size w w' := by
  by_cases h : k < 1 ∨ (1 ≤ k ∧ 3 < k) ∨ (1 ≤ k ∧ k ≤ 3 ∧ at_ < 0) ∨ (1 ≤ k ∧ k ≤ 3 ∧ 0 ≤ at_ ∧ 20 < at_)
  · exact turned_out k n d at_ a b c e h w
  · obtain ⟨n, rfl, a1⟩ := u64_val n hn
    obtain ⟨d, rfl, a2⟩ := u64_val d hd
    obtain ⟨a, rfl⟩ := byte_val a ha
    obtain ⟨b, rfl⟩ := byte_val b hb
    obtain ⟨c, rfl⟩ := byte_val c hc
    obtain ⟨e, rfl⟩ := byte_val e he
    obtain ⟨p, rfl⟩ := Int.eq_ofNat_of_zero_le (a := at_) (by omega)
    exact turned_in k n d p a b c e (by omega) (by omega) a1 a2 (by omega) w
end Go.Proofs.Ytclhdgolcaacbaa
