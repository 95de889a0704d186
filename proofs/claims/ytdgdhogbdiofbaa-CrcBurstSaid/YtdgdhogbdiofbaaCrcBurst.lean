/- The walk of the law CrcBurst. -/
import Derived.Test.YtdgdhogbdiofbaaCrcLaws
import Derived.Test.YtdgdhogbdiofbaaCrcSwap
import Derived.Test.YtdgdhogbdiofbaaBytes
namespace Go.Proofs.Ytdgdhogbdiofbaa.Crc
open Go.RowKit
set_option linter.unusedVariables false

/-- the bytes l, k of them from p on turned by those of y -/
def turned (l : List UInt8) (p : Nat) (y : List UInt8) : Nat → List UInt8
  | 0 => l
  | k + 1 => (turned l p y k).set (p + k) ((turned l p y k).getD (p + k) 0 ^^^ y.getD k 0)

theorem turned_length (l : List UInt8) (p : Nat) (y : List UInt8) (k : Nat) : (turned l p y k).length = l.length := by
  induction k with
  | zero => rfl
  | succ k ih => simp only [turned, List.length_set, ih]

/-- whether none of the first k is other than 0 -/
def zeros (y : List UInt8) (k : Nat) : Bool := (y.take k).all (· == 0)

theorem zeros_succ (y : List UInt8) (k : Nat) (h : k < y.length) : zeros y (k + 1) = (zeros y k && (y.getD k 0 == 0)) := by
  unfold zeros
  rw [List.take_succ_eq_append_getElem h, List.all_append]
  simp [h]

theorem turned_eq (l : List UInt8) (p : Nat) (y : List UInt8) (k : Nat) (h : p + k ≤ l.length) (hy : k ≤ y.length) :
    turned l p y k = l.take p ++ List.zipWith (· ^^^ ·) ((l.drop p).take k) (y.take k) ++ l.drop (p + k) := by
  induction k with
  | zero => simp [turned]
  | succ k ih =>
    have ih' := ih (by omega) (by omega)
    have e1 : (l.drop p).take (k + 1) = (l.drop p).take k ++ [l[p + k]] := by
      rw [List.take_succ_eq_append_getElem (by rw [List.length_drop]; omega)]; simp
    have e2 : y.take (k + 1) = y.take k ++ [y[k]] := List.take_succ_eq_append_getElem (by omega)
    have e3 : l.drop (p + k) = l[p + k] :: l.drop (p + k + 1) := List.drop_eq_getElem_cons (by omega)
    have hl : (l.take p ++ List.zipWith (· ^^^ ·) ((l.drop p).take k) (y.take k)).length = p + k := by
      simp; omega
    have hg : (turned l p y k).getD (p + k) 0 = l[p + k] := by
      rw [ih', e3, List.getD_eq_getElem?_getD, List.getElem?_append_right (by omega), hl, Nat.sub_self]; rfl
    simp only [turned]
    rw [hg, ih', e3]
    rw [List.set_append_right _ _ (by omega), hl]
    rw [e1, e2, List.zipWith_append (by simp; omega)]
    have hy2 : y.getD k 0 = y[k] := by rw [List.getD_eq_getElem?_getD, List.getElem?_eq_getElem (by omega)]; rfl
    rw [hy2]
    simp [List.append_assoc, Nat.add_assoc]

theorem zip_zero (m y : List UInt8) (h : m.length = y.length) : m = List.zipWith (· ^^^ ·) m y ↔ (y.all (· == 0)) = true := by
  induction m generalizing y with
  | nil => cases y with
    | nil => simp
    | cons a y => simp at h
  | cons a m ih =>
    cases y with
    | nil => simp at h
    | cons b y =>
      simp only [List.zipWith_cons_cons, List.cons.injEq, List.all_cons, Bool.and_eq_true, beq_iff_eq]
      rw [ih y (by simpa using h)]
      constructor
      · rintro ⟨h1, h2⟩
        refine ⟨?_, h2⟩
        have : a ^^^ a = a ^^^ (a ^^^ b) := by rw [← h1]
        rw [UInt8.xor_self, ← UInt8.xor_assoc, UInt8.xor_self, UInt8.zero_xor] at this
        exact this.symm
      · rintro ⟨rfl, h2⟩; exact ⟨by simp, h2⟩

theorem burst_math (s X : ByteArray) (p k : Nat) (y : List UInt8) (h : p + k ≤ s.size) (hk : k ≤ 4) (hy : y.length = 4) (hX : X = ⟨(turned s.data.toList p y k).toArray⟩) :
    ((((sumS X).toNat : Int) == ((sumS s).toNat : Int)) == zeros y k) = true := by
  have hl : s.data.toList.length = s.size := by simp
  rw [beq_iff_eq, Bool.eq_iff_iff, eq_words]
  have e1 : X.data.toList = s.data.toList.take p ++ List.zipWith (· ^^^ ·) ((s.data.toList.drop p).take k) (y.take k) ++ s.data.toList.drop (p + k) := by
    rw [hX]; exact turned_eq _ _ _ _ (by omega) (by omega)
  have e2 : s.data.toList = s.data.toList.take p ++ (s.data.toList.drop p).take k ++ s.data.toList.drop (p + k) := by
    rw [← List.drop_drop, List.append_assoc, List.take_append_drop, List.take_append_drop]
  unfold sumS zeros
  rw [e1]
  conv => lhs; rhs; rw [e2]
  have hm : ((s.data.toList.drop p).take k).length = (y.take k).length := by simp; omega
  rw [← zip_zero _ _ hm]
  have := sum_burst (s.data.toList.take p) ((s.data.toList.drop p).take k) (List.zipWith (· ^^^ ·) ((s.data.toList.drop p).take k) (y.take k)) (s.data.toList.drop (p + k)) (by simp; omega) (by simp; omega)
  exact Iff.trans ⟨fun h => h.symm, fun h => h.symm⟩ this

theorem burst_size (s X : ByteArray) (p k : Nat) (y : List UInt8) (hs : s.size ≤ 200) (hX : X = ⟨(turned s.data.toList p y k).toArray⟩) : X.size ≤ maxLen := by
  rw [hX]
  show ((turned s.data.toList p y k).toArray).size ≤ maxLen
  rw [List.size_toArray, turned_length]
  simp
  unfold maxLen
  omega

theorem zero_test (y : UInt8) : (true && (y == 0)) = ((y.toNat : Int) == 0) := by
  rw [Bool.true_and, Bool.eq_iff_iff, beq_iff_eq, beq_iff_eq]
  constructor
  · rintro rfl; rfl
  · intro h; exact UInt8.toNat_inj.1 (by simpa using h)

theorem row4 (w : World) (a b c d : UInt8) (n : Nat) (hn : n = w.heap.size) : Row (w.alloc (.cells #[.int .u8 (a.toNat : Int), .int .u8 (b.toNat : Int), .int .u8 (c.toNat : Int), .int .u8 (d.toNat : Int)] 5)) n [a, b, c, d] := by
  subst hn
  intro j hj
  match j, hj with
  | 0, _ | 1, _ | 2, _ | 3, _ => simp

set_option maxHeartbeats 1000000 in
theorem burst (s : ByteArray) (at_ a b c d : Int) (hs : s.size ≤ maxLen) (hat : (Lit.int .i64 at_).wf = true) (ha : (Lit.int .u8 a).wf = true) (hb : (Lit.int .u8 b).wf = true) (hc : (Lit.int .u8 c).wf = true) (hd : (Lit.int .u8 d).wf = true) (w : World) :
    Calls Try.prog 3 #[.string s, .int .i64 at_, .int .u8 a, .int .u8 b, .int .u8 c, .int .u8 d] w fun e w' => e = .returned (.bool true) ∧ Below w.heap.size w w' := by
  obtain ⟨a, rfl⟩ := byte_val a ha
  obtain ⟨b, rfl⟩ := byte_val b hb
  obtain ⟨c, rfl⟩ := byte_val c hc
  obtain ⟨d, rfl⟩ := byte_val d hd
  clear ha hb hc hd hat
  by_cases h : 200 < s.size ∨ at_ < 0 ∨ (s.size : Int) ≤ at_
  · rcases (show 200 < s.size ∨ (s.size ≤ 200 ∧ at_ < 0) ∨ (s.size ≤ 200 ∧ 0 ≤ at_ ∧ (s.size : Int) ≤ at_) from by omega) with h | ⟨h, h2⟩ | ⟨h, h2, h3⟩
    · go_enter Try.func3, Try.ntmps3
      go_wp2_with (refine (shown_any _).mono ?_; rintro e w1 ⟨rfl, hb1⟩)
      go_ret
      exact ⟨rfl, hb1⟩
    · go_enter Try.func3, Try.ntmps3
      go_wp2_with (refine (shown_any _).mono ?_; rintro e w1 ⟨rfl, hb1⟩)
      go_ret
      exact ⟨rfl, hb1⟩
    · go_enter Try.func3, Try.ntmps3
      go_wp2_with (refine (shown_any _).mono ?_; rintro e w1 ⟨rfl, hb1⟩)
      go_ret
      exact ⟨rfl, hb1⟩
  · obtain ⟨p, rfl⟩ := Int.eq_ofNat_of_zero_le (a := at_) (by omega)
    have h1 : s.size ≤ 200 := by omega
    have h2 : p < s.size := by omega
    have d1 : decide (200 < (s.size : Int)) = false := by simp; omega
    have d2 : decide ((p : Int) < 0) = false := by simp
    have d3 : decide (s.size ≤ p) = false := by simp; exact h2
    clear h
    have hcv := fun w : World => run_bytes_of_string (P := Try.prog) w 9 23 5 s Try.underlying9 Try.underlying23 Try.underlying5
    go_enter Try.func3, Try.ntmps3
    go_wp2_with (refine (shown_any _).mono ?_; rintro e w1 ⟨rfl, hb1⟩)
    have hr1 := (Row.ofString w1 s (grownCap w1 s.size 0 5) _ (bytesRow_size s (grownCap w1 s.size 0 5))).below (Below.refl _ _ |>.alloc (Nat.le_refl _) (.cells #[.int .u8 (a.toNat : Int), .int .u8 (b.toNat : Int), .int .u8 (c.toNat : Int), .int .u8 (d.toNat : Int)] 5)) (by simp)
    have hr2 := row4 (w1.alloc (.cells (bytesRow s (grownCap w1 s.size 0 5)) 5 ((bytesRow s (grownCap w1 s.size 0 5)).size, (bytesRow s (grownCap w1 s.size 0 5)).size + 1))) a b c d (w1.heap.size + 1) (by simp)
    have hbl := ((hb1.alloc hb1.size (.cells (bytesRow s (grownCap w1 s.size 0 5)) 5 ((bytesRow s (grownCap w1 s.size 0 5)).size, (bytesRow s (grownCap w1 s.size 0 5)).size + 1))).alloc (by simp; exact Nat.le_succ_of_le hb1.size) (.cells #[.int .u8 (a.toNat : Int), .int .u8 (b.toNat : Int), .int .u8 (c.toNat : Int), .int .u8 (d.toNat : Int)] 5)).drew
    have hsz := hb1.size
    generalize grownCap w1 s.size 0 5 = C at *
    go_loopw [15, 16] (fun z i wr => ∃ k : Nat, k ≤ 4 ∧ p + k ≤ s.size ∧ i = .int .i64 k ∧ z = .bool (zeros [a, b, c, d] k) ∧ Row wr w1.heap.size (turned s.data.toList p [a, b, c, d] k) ∧ Row wr (w1.heap.size + 1) [a, b, c, d] ∧ Below w.heap.size w wr) (fun _ i _ => 4 - (intOf i).toNat)
    case atStart => exact ⟨0, by omega, by omega, rfl, rfl, hr1, hr2, hbl⟩
    case round =>
      obtain ⟨k, hk, hpk, rfl, rfl, h5, h6, hbr⟩ := hrel
      clear hr1 hr2 hbl
      by_cases hlt : k < 4 ∧ p + k < s.size
      · obtain ⟨hk4, hps⟩ := hlt
        have hlen := turned_length s.data.toList p [a, b, c, d] k
        have hl2 : s.data.toList.length = s.size := by simp
        obtain ⟨x, hx⟩ : ∃ x, x = (turned s.data.toList p [a, b, c, d] k)[p + k]'(by omega) := ⟨_, rfl⟩
        obtain ⟨y, hy⟩ : ∃ y, y = [a, b, c, d][k]'(by simpa using hk4) := ⟨_, rfl⟩
        have c1 := (h5 (p + k) (by omega)).1
        have c2 := (h5 (p + k) (by omega)).2
        have c3 := (h6 k (by simpa using hk4)).1
        rw [← hx] at c1
        rw [← hy] at c3
        obtain ⟨z, hz⟩ : ∃ z, z = x ^^^ y := ⟨_, rfl⟩
        have e1 : bits .xor .u8 (x.toNat : Int) (y.toNat : Int) = (z.toNat : Int) := by rw [u8_xor_nat _ _ x.toNat_lt y.toNat_lt, ← UInt8.toNat_xor, hz]
        have q1 : IntKind.i64.wrap ((p : Int) + (k : Int)) = (p : Int) + (k : Int) := IntWalk.i64_in _ (by omega)
        have q2 : (0 : Int) ≤ (p : Int) + (k : Int) := by omega
        have q3 : ((p : Int) + (k : Int)).toNat = p + k := by omega
        have q4 : (p : Int) + (k : Int) < (s.size : Int) := by omega
        have hset : turned s.data.toList p [a, b, c, d] (k + 1) = (turned s.data.toList p [a, b, c, d] k).set (p + k) z := by
          simp only [turned]
          rw [hz, hx, hy, List.getD_eq_getElem?_getD, List.getElem?_eq_getElem (by omega), List.getD_eq_getElem?_getD, List.getElem?_eq_getElem (by simpa using hk4)]
          rfl
        have n5 := h5.drew.set (p + k) z
        have n6 := h6.drew.other ⟨w1.heap.size, p + k, none⟩ (by simp) (.int .u8 (z.toNat : Int))
        have HSET := Lib.hid hset
        have H5 := Lib.hid n5
        have H6 := Lib.hid n6
        have HZ := Lib.hid (zeros_succ [a, b, c, d] k (by simpa using hk4))
        have HY := Lib.hid hy
        clear hset n5 n6 hz hx hy h5 h6 hlen hl2
        have hyk : [a, b, c, d].getD k 0 = y := by
          rw [HY.out, List.getD_eq_getElem?_getD, List.getElem?_eq_getElem (by simpa using hk4)]; rfl
        have HYK := Lib.hid hyk; clear hyk
        have hy8 : y.toNat < 256 := y.toNat_lt
        go_wp2_with fail
        go_region
        cases hzk : zeros [a, b, c, d] k
        · go_wp2
          go_roundw
          case rel => exact ⟨k + 1, by omega, by omega, by go_num, by rw [HZ.out, hzk]; rfl, by rw [HSET.out]; exact H5.out, H6.out, (hbr.drew).setCell (by simp; exact hsz) _⟩
          case measure => simp [intOf]; omega
        · go_wp2
          go_roundw
          case rel => exact ⟨k + 1, by omega, by omega, by go_num, by rw [HZ.out, hzk, HYK.out, zero_test], by rw [HSET.out]; exact H5.out, H6.out, (hbr.drew).setCell (by simp; exact hsz) _⟩
          case measure => simp [intOf]; omega
      · have hend : k = 4 ∨ (k < 4 ∧ s.size ≤ p + k) := by omega
        clear hlt
        obtain ⟨X, hX⟩ : ∃ X : ByteArray, X = ⟨(turned s.data.toList p [a, b, c, d] k).toArray⟩ := ⟨_, rfl⟩
        have hcv2 : (convert 23 9 (.slice (some ⟨w1.heap.size, 0, none⟩) s.size C)).run Try.prog wr = .ok (.string X) wr := by
          have hc := conv_cells wr w1.heap.size 0 C (turned s.data.toList p [a, b, c, d] k) (fun j hj => by rw [Nat.zero_add]; exact (h5 j hj).1)
          rw [turned_length] at hc
          rw [hX]
          simpa using hc
        have HM := Lib.hid (burst_math s X p k [a, b, c, d] hpk hk rfl hX)
        have z1 := burst_size s X p k [a, b, c, d] h1 hX
        clear hX h5 h6 hcv
        rcases hend with rfl | ⟨hk4, hps⟩
        · go_wp2_with (first
            | ((with_reducible refine (Sum_any X z1 _).mono ?_); rintro e w2 ⟨rfl, hb2⟩)
            | ((with_reducible refine (Sum_any s hs _).mono ?_); rintro e w3 ⟨rfl, hb3⟩))
          go_ret
          exact ⟨ret_bool HM.out, bthen (bthen hbr hb2) hb3⟩
        · go_wp2_with (first
            | ((with_reducible refine (Sum_any X z1 _).mono ?_); rintro e w2 ⟨rfl, hb2⟩)
            | ((with_reducible refine (Sum_any s hs _).mono ?_); rintro e w3 ⟨rfl, hb3⟩))
          go_ret
          exact ⟨ret_bool HM.out, bthen (bthen hbr hb2) hb3⟩
end Go.Proofs.Ytdgdhogbdiofbaa.Crc
