/- field.Put, field.Get: what each answers (widths from 0 to 8; texts of up to 8 bytes). -/
import Derived.Test.YtclhdgolcaacbaaBytes
import Derived.Test.YtclhdgolcaacbaaCrcB
namespace Go.Proofs.Ytclhdgolcaacbaa
open Go.RowKit
set_option linter.unusedVariables false
set_option linter.unusedSimpArgs false

/-- the lowest w bytes of a number, the highest one first -/
def putL (n : Nat) : Nat → List UInt8
  | 0 => []
  | w + 1 => putL (n / 256) w ++ [UInt8.ofNat n]
theorem putL_length (n w : Nat) : (putL n w).length = w := by induction w generalizing n with | zero => rfl | succ w ih => simp [putL, ih]
def putB (n w : Nat) : ByteArray := ⟨(putL n w).toArray⟩
theorem putB_size (n w : Nat) : (putB n w).size = w := by show (putL n w).toArray.size = w; simp [putL_length]

/-- the number of bytes -/
def getL (l : List UInt8) : Nat := l.foldl (fun n b => n * 256 + b.toNat) 0
theorem getL_snoc (l : List UInt8) (b : UInt8) : getL (l ++ [b]) = getL l * 256 + b.toNat := by simp [getL]
theorem snoc_ind {α : Type} {M : List α → Prop} (h0 : M []) (hs : ∀ l b, M l → M (l ++ [b])) (l : List α) : M l := by
  rw [← List.reverse_reverse l]
  induction l.reverse with
  | nil => exact h0
  | cons a m ih => rw [List.reverse_cons]; exact hs _ _ ih
theorem getL_lt (l : List UInt8) : getL l < 256 ^ l.length := by
  induction l using snoc_ind with
  | h0 => simp [getL]
  | hs l b ih =>
    rw [getL_snoc, List.length_append, List.length_singleton, Nat.pow_succ]
    have := b.toNat_lt
    omega
def getN (s : ByteArray) : Nat := getL s.data.toList

theorem getL_putL (n w : Nat) : getL (putL n w) = n % 256 ^ w := by
  induction w generalizing n with
  | zero => simp [putL, getL, Nat.mod_one]
  | succ w ih =>
    rw [putL, getL_snoc, ih, Nat.pow_succ, Nat.mul_comm (256 ^ w), Nat.mod_mul]
    have : (UInt8.ofNat n).toNat = n % 256 := by simp
    rw [this]; omega

theorem getL_inj (l m : List UInt8) (h : l.length = m.length) (hg : getL l = getL m) : l = m := by
  induction l using snoc_ind generalizing m with
  | h0 => cases m with | nil => rfl | cons a m => simp at h
  | hs l b ih =>
    rcases List.eq_nil_or_concat m with rfl | ⟨m', c, rfl⟩
    · simp at h
    · rw [getL_snoc, List.concat_eq_append, getL_snoc] at hg
      have h1 := b.toNat_lt
      have h2 := c.toNat_lt
      have e1 : getL l = getL m' := by omega
      have e2 : b.toNat = c.toNat := by omega
      rw [ih m' (by simpa using h) e1, UInt8.toNat_inj.1 e2, List.concat_eq_append]

/-- what lies in the row behind k rounds -/
def putR (n w k : Nat) : List UInt8 := List.replicate (w - k) 0 ++ putL (n % 256 ^ k) k
theorem putL_mod (n w : Nat) : putL (n % 256 ^ w) w = putL n w := getL_inj _ _ (by rw [putL_length, putL_length]) (by rw [getL_putL, getL_putL, Nat.mod_mod])
theorem putL_cons (n k : Nat) : putL n (k + 1) = UInt8.ofNat (n / 256 ^ k) :: putL n k := by
  induction k generalizing n with
  | zero => simp [putL]
  | succ k ih =>
    rw [putL, ih, putL, List.cons_append]
    congr 2
    rw [Nat.div_div_eq_div_mul, Nat.pow_succ, Nat.mul_comm]
theorem putR_set (n w k : Nat) (h : k < w) : (putR n w k).set (w - 1 - k) (UInt8.ofNat (n / 256 ^ k)) = putR n w (k + 1) := by
  unfold putR
  rw [putL_mod, putL_mod, putL_cons, show w - k = (w - (k + 1)) + 1 by omega, List.replicate_succ', List.append_assoc]
  rw [List.set_append_right _ _ (by simp; omega)]
  simp [show w - 1 - k - (w - (k + 1)) = 0 by omega]
theorem putR_full (n w : Nat) : putR n w w = putL n w := by unfold putR; rw [putL_mod]; simp
theorem putR_zero (n w : Nat) : putR n w 0 = List.replicate w 0 := by simp [putR, putL]
theorem putR_length (n w k : Nat) (h : k ≤ w) : (putR n w k).length = w := by simp [putR, putL_length]; omega

set_option maxHeartbeats 1000000 in
theorem Put_any (n w : Nat) (hn : n < 18446744073709551616) (hw : w ≤ 8) (W : World) :
    Calls Try.prog 22 #[.int .u64 (n : Int), .int .i64 (w : Int)] W fun e w' => e = .returned (.string (putB n w)) ∧ Below W.heap.size W w' := by
  have hmk := mk_bytes w (by omega)
  have hmx : max (w : Int) 0 = (w : Int) := by omega
  have hmn : min (w : Int) 8 = (w : Int) := by omega
  go_enter Try.func22, Try.ntmps22
  go_wp2
  have b0 := Blk.new W 5 (bcells (List.replicate w 0)).toArray
  have hB0 : Below W.heap.size W (W.alloc (.cells (bcells (List.replicate w 0)).toArray 5)) := (Below.refl _ W).alloc (Nat.le_refl _) _
  rw [← putR_zero n w] at b0 hB0
  simp only [← putR_zero n w]
  generalize (W.alloc (.cells (bcells (putR n w 0)).toArray 5)) = W1 at *
  go_loopw [0, 13] (fun m i wr => ∃ k : Nat, k ≤ w ∧ i = .int .i64 k ∧ m = .int .u64 ((n / 256 ^ k : Nat) : Int) ∧ Blk wr W.heap.size 5 (bcells (putR n w k)).toArray ∧ Below W.heap.size W wr) (fun _ i _ => w - (intOf i).toNat)
  case atStart => exact ⟨0, by omega, rfl, by simp, b0, hB0⟩
  case round =>
    obtain ⟨k, hk, rfl, rfl, bR, hbr⟩ := hrel
    by_cases hlt : k < w
    · have hol := putR_length n w k hk
      obtain ⟨m, hm⟩ : ∃ m, m = n / 256 ^ k := ⟨_, rfl⟩
      have hm2 : n / 256 ^ (k + 1) = m / 256 := by rw [hm, Nat.div_div_eq_div_mul, Nat.pow_succ]
      have hmlt : m < 18446744073709551616 := by rw [hm]; exact Nat.lt_of_le_of_lt (Nat.div_le_self _ _) hn
      have cS : wr.cell? ⟨W.heap.size, w - 1 - k, none⟩ = some (.int .u8 (((putR n w k)[w - 1 - k]'(by omega)).toNat : Int)) := by rw [bR.cell]; simp [bcells, hol, show w - 1 - k < w by omega]
      have fS := bR.frozen (w - 1 - k)
      have hset := bcells_set (putR n w k) (w - 1 - k) (UInt8.ofNat m)
      have bR2 := bR.set (w - 1 - k) (.int .u8 ((UInt8.ofNat m).toNat : Int))
      rw [hset, hm, putR_set n w k hlt, ← hm] at bR2
      have q0 : IntKind.i64.wrap ((w : Int) - 1) = (w : Int) - 1 := IntWalk.i64_in _ (by omega)
      have q1 : IntKind.i64.wrap (IntKind.i64.wrap ((w : Int) - 1) - (k : Int)) = ((w - 1 - k : Nat) : Int) := by rw [q0, IntWalk.i64_in _ (by omega)]; omega
      have hu8 : (((UInt8.ofNat m).toNat : Nat) : Int) = (m : Int) % 256 := by simp
      rw [hu8] at bR2
      have HB := Lib.hid bR2
      have HL := Lib.hid (hbr.setCell (p := ⟨W.heap.size, w - 1 - k, none⟩) (by simp) (.int .u8 ((m : Int) % 256)))
      have HM := Lib.hid hm2
      clear bR2 hu8
      simp only [← hm]
      clear hset bR hm hm2
      go_wp2
      go_roundw
      case rel => exact ⟨k + 1, by omega, by go_num, by rw [HM.out]; go_num, HB.out, HL.out⟩
      case measure => simp [intOf]; omega
    · have hk2 : k = w := by omega
      subst hk2
      have hcv := conv_cells wr W.heap.size 0 k (putR n k k) (fun j hj => by rw [Nat.zero_add, bR.cell]; simp [bcells, hj])
      rw [putR_length n k k (Nat.le_refl _), putR_full] at hcv
      go_wp2
      go_ret
      exact ⟨rfl, hbr⟩

set_option maxHeartbeats 1000000 in
theorem Get_any (s : ByteArray) (hs : s.size ≤ 8) (W : World) :
    Calls Try.prog 30 #[.string s] W fun e w' => e = .returned (.int .u64 (getN s : Int)) ∧ W = w' := by
  go_enter Try.func30, Try.ntmps30
  go_wp2
  go_loopw [2, 6] (fun m i wr => ∃ k : Nat, k ≤ s.size ∧ i = .int .i64 k ∧ m = .int .u64 ((getL (s.data.toList.take k) : Nat) : Int) ∧ wr = W) (fun _ i _ => s.size - (intOf i).toNat)
  case atStart => exact ⟨0, by omega, rfl, rfl, rfl⟩
  case round =>
    obtain ⟨k, hk, rfl, rfl, rfl⟩ := hrel
    by_cases hlt : k < s.size
    · have hb := Crc.byte_at s k hlt
      have hg := getL_lt (s.data.toList.take k)
      have hl : (s.data.toList.take k).length = k := by simp; omega
      have hsn : getL (s.data.toList.take (k + 1)) = getL (s.data.toList.take k) * 256 + s[k].toNat := by rw [hb, getL_snoc]
      rw [hl] at hg
      have hp : 256 ^ k ≤ 256 ^ 7 := Nat.pow_le_pow_right (by decide) (by omega)
      have h8 := s[k].toNat_lt
      obtain ⟨n, hn⟩ : ∃ n, n = getL (s.data.toList.take k) := ⟨_, rfl⟩
      rw [← hn] at hg hsn
      simp only [← hn]
      have hn7 : n < 72057594037927936 := by have : (256 : Nat) ^ 7 = 72057594037927936 := by decide
                                             omega
      have HN := Lib.hid hsn
      clear hn hsn hg hp hb hl
      go_wp2
      go_roundw
      case rel => exact ⟨k + 1, by omega, by go_num, by rw [HN.out]; go_num, by trivial⟩
      case measure => simp [intOf]; omega
    · have hk2 : k = s.size := by omega
      subst hk2
      have ht : getL (s.data.toList.take s.size) = getN s := by unfold getN; rw [List.take_of_length_le (by simp)]
      simp only [ht]
      go_wp2
      go_ret
      exact ⟨rfl, rfl⟩
end Go.Proofs.Ytclhdgolcaacbaa
