/- Walks of crc.Sum, crc.Range and of the document's answers for layer 2. -/
import Derived.Test.YtclhdgolcaacbaaCrc
namespace Go.Proofs.Ytclhdgolcaacbaa.Crc
open Go.RowKit
set_option linter.unusedVariables false

theorem byte_at (s : ByteArray) (k : Nat) (h : k < s.size) : s.data.toList.take (k + 1) = s.data.toList.take k ++ [s[k]] := by
  rw [List.take_succ_eq_append_getElem (by simpa using h)]; rfl

/-- the sum of a text -/
def sumS (s : ByteArray) : W := sum s.data.toList

/-- the sum as it stands behind some bytes -/
def runA (l : List UInt8) : W := run (BitVec.allOnes 32) l

theorem runA_at (s : ByteArray) (k : Nat) (h : k < s.size) : step (runA (s.data.toList.take k)) s[k] = runA (s.data.toList.take (k + 1)) := by
  unfold runA; rw [byte_at s k h, run_snoc]

theorem ones : (4294967295 : Int) = ((BitVec.allOnes 32).toNat : Int) := by decide

theorem runA_nil : (.int .u32 4294967295 : Value) = u32 (runA []) := by rw [ones]; rfl

theorem runA_end (s : ByteArray) : bits .xor .u32 IntKind.u32.max ((runA (s.data.toList.take s.size)).toNat : Int) = ((sumS s).toNat : Int) := by
  rw [List.take_of_length_le (by simp), show IntKind.u32.max = 4294967295 from rfl, ones, bits_xor, BitVec.allOnes_xor]; rfl

theorem runA_end' (s : ByteArray) : bits .xor .u32 ((runA (s.data.toList.take s.size)).toNat : Int) 4294967295 = ((sumS s).toNat : Int) := by
  rw [List.take_of_length_le (by simp), ones, bits_xor, BitVec.xor_allOnes]; rfl

theorem Sum_any (s : ByteArray) (hs : s.size ≤ maxLen) (w : World) :
    Calls Try.prog 24 #[.string s] w fun e w' => e = .returned (u32 (sumS s)) ∧ Below w.heap.size w w' := by
  unfold maxLen at hs
  go_enter Try.func24, Try.ntmps24
  go_wp2_with (first
    | (go_at_call 35; refine (table_any _).mono ?_; rintro e w1 ⟨rfl, hb1⟩))
  have ht := isTab_new w1
  have hbl := hb1.alloc hb1.size (.cells tabLit 57)
  have hlt : w1.heap.size < (w1.alloc (.cells tabLit 57)).heap.size := by simp
  generalize (w1.alloc (.cells tabLit 57)) = W1 at *
  generalize w1.heap.size = A1 at *
  generalize tabLit = TL at *
  go_loop [4, 9] (fun c i => ∃ k : Nat, k ≤ s.size ∧ i = .int .i64 k ∧ c = u32 (runA (s.data.toList.take k))) (fun _ i => s.size - (intOf i).toNat)
  case atStart => exact ⟨0, by omega, rfl, runA_nil⟩
  case round =>
    obtain ⟨k, hk, rfl, rfl⟩ := hrel
    by_cases hlt : k < s.size
    · have HR := Lib.hid (runA_at s k hlt)
      go_wp2_with (refine (step_any _ _ _ _ ht).mono ?_; rintro e w2 ⟨rfl, rfl⟩)
      go_round
      case rel => exact ⟨k + 1, by omega, by go_num, by rw [HR.out]⟩
      case measure => simp [intOf]; omega
    · have hk2 : k = s.size := by omega
      subst hk2
      have he := runA_end s
      go_wp2
      go_ret
      exact ⟨rfl, hbl⟩

/-! the document's -/

theorem shr_bit (c : W) : (c.toNat : Int) / (2 : Int) = ((c >>> 1).toNat : Int) := by
  rw [BitVec.toNat_ushiftRight, Nat.shiftRight_eq_div_pow]; rfl

theorem low_bit (c : W) : bits .and .u32 (c.toNat : Int) 1 = if c.getLsbD 0 then 1 else 0 := by
  rw [show (1 : Int) = ((1#32 : W).toNat : Int) from rfl, bits_and]
  rw [BitVec.toNat_and, show (1#32).toNat = 1 from rfl, Nat.and_one_is_mod]
  have : c.getLsbD 0 = c.toNat.testBit 0 := rfl
  rw [this, Nat.testBit_zero]
  rcases Nat.mod_two_eq_zero_or_one c.toNat with h | h <;> simp [h]

def bitsOf : Nat → W → W := bsteps
theorem bitsOf_even (k : Nat) (d : W) (h : bits .and .u32 ((bitsOf k d).toNat : Int) 1 = 0) : (((bitsOf k d).toNat : Int) / (2 : Int)) = ((bitsOf (k + 1) d).toNat : Int) := by
  have hb : (bitsOf k d).getLsbD 0 = false := by
    cases h0 : (bitsOf k d).getLsbD 0
    · rfl
    · rw [low_bit, h0] at h; simp at h
  show _ = ((bsteps (k + 1) d).toNat : Int)
  rw [bsteps_add]
  show _ = ((bstep (bitsOf k d)).toNat : Int)
  rw [bstep_even _ hb]; exact shr_bit _
theorem bitsOf_odd (k : Nat) (d : W) (h : bits .and .u32 ((bitsOf k d).toNat : Int) 1 = 1) : bits .xor .u32 (((bitsOf k d).toNat : Int) / (2 : Int)) 3988292384 = ((bitsOf (k + 1) d).toNat : Int) := by
  have hb : (bitsOf k d).getLsbD 0 = true := by
    cases h0 : (bitsOf k d).getLsbD 0
    · rw [low_bit, h0] at h; simp at h
    · rfl
  show _ = ((bsteps (k + 1) d).toNat : Int)
  rw [bsteps_add]
  show _ = ((bstep (bitsOf k d)).toNat : Int)
  unfold bstep
  rw [hb, if_pos rfl, shr_bit]
  exact bits_xor _ poly
theorem bitsOf_low (k : Nat) (d : W) : bits .and .u32 ((bitsOf k d).toNat : Int) 1 = 0 ∨ bits .and .u32 ((bitsOf k d).toNat : Int) 1 = 1 := by
  rw [low_bit]; split <;> simp

theorem rstep_any (c : W) (b : UInt8) (w : World) :
    Calls Try.prog 37 #[u32 c, .int .u8 b.toNat] w fun e w' => e = .returned (u32 (step c b)) ∧ w = w' := by
  have hb : b.toNat < 256 := b.toNat_lt
  obtain ⟨d, hd⟩ : ∃ d : W, d = c ^^^ b.toBitVec.setWidth 32 := ⟨_, rfl⟩
  have e1 : bits .xor .u32 (c.toNat : Int) (b.toNat : Int) = (d.toNat : Int) := by rw [bits_byte, hd]
  have HS := Lib.hid (show step c b = bitsOf 8 d from by rw [hd]; rfl)
  clear hd
  go_enter Try.func37, Try.ntmps37
  go_wp2
  go_loop [0, 5, 6] (fun c i _ => ∃ k : Nat, k ≤ 8 ∧ i = .int .i64 k ∧ c = u32 (bitsOf k d)) (fun _ i _ => 8 - (intOf i).toNat)
  case atStart => exact ⟨0, by omega, rfl, rfl⟩
  case round =>
    obtain ⟨k, hk, rfl, rfl⟩ := hrel
    by_cases hlt : k < 8
    · rcases bitsOf_low k d with h | h
      · have HE := Lib.hid (bitsOf_even k d h)
        go_wp2
        go_round
        case rel => exact ⟨k + 1, by omega, by go_num, by rw [HE.out]⟩
        case measure => simp [intOf]; omega
      · have HE := Lib.hid (bitsOf_odd k d h)
        go_wp2
        go_round
        case rel => exact ⟨k + 1, by omega, by go_num, by rw [HE.out]⟩
        case measure => simp [intOf]; omega
    · have hk8 : k = 8 := by omega
      subst hk8
      go_wp2
      go_ret
      exact ⟨by rw [HS.out]; rfl, rfl⟩

theorem rSum_any (s : ByteArray) (hs : s.size ≤ maxLen) (w : World) :
    Calls Try.prog 27 #[.string s] w fun e w' => e = .returned (u32 (sumS s)) ∧ w = w' := by
  unfold maxLen at hs
  go_enter Try.func27, Try.ntmps27
  go_wp2
  go_loop [3, 4] (fun c i => ∃ k : Nat, k ≤ s.size ∧ i = .int .i64 k ∧ c = u32 (runA (s.data.toList.take k))) (fun _ i => s.size - (intOf i).toNat)
  case atStart => exact ⟨0, by omega, rfl, runA_nil⟩
  case round =>
    obtain ⟨k, hk, rfl, rfl⟩ := hrel
    by_cases hlt : k < s.size
    · have HR := Lib.hid (runA_at s k hlt)
      go_wp2_with (refine (rstep_any _ _ _).mono ?_; rintro e w2 ⟨rfl, rfl⟩)
      go_round
      case rel => exact ⟨k + 1, by omega, by go_num, by rw [HR.out]⟩
      case measure => simp [intOf]; omega
    · have hk2 : k = s.size := by omega
      subst hk2
      have he := runA_end' s
      go_wp2
      go_ret
      exact ⟨rfl, rfl⟩

/-- the sum of a part -/
def rangeW (s : ByteArray) (f t : Int) : W :=
  if min t s.size ≤ max f 0 then 0#32 else sumS (s.extract (max f 0).toNat (min t s.size).toNat)

theorem rangeW_none (s : ByteArray) (f t : Int) (h : min t s.size ≤ max f 0) : rangeW s f t = 0#32 := by unfold rangeW; rw [if_pos h]
theorem rangeW_some (s : ByteArray) (f t : Int) (a b : Nat) (ha : max f 0 = a) (hb : min t s.size = b) (h : a < b) : rangeW s f t = sumS (s.extract a b) := by
  unfold rangeW; rw [if_neg (by omega), ha, hb]; rfl
theorem rangeW_all (s : ByteArray) (f t : Int) (hf : f ≤ 0) (ht : (s.size : Int) ≤ t) (h : 0 < s.size) : rangeW s f t = sumS s := by
  rw [rangeW_some s f t 0 s.size (by omega) (by omega) h]; simp
theorem zero32 : (.int .u32 0 : Value) = u32 0#32 := rfl
theorem ext_le {s : ByteArray} {a b : Nat} (hs : s.size ≤ maxLen) : (s.extract a b).size ≤ maxLen := by
  rw [ByteArray.size_extract]; omega

theorem Range_none (s : ByteArray) (hs : s.size ≤ maxLen) (f t : Int) (w : World) (h : min t s.size ≤ max f 0) :
    Calls Try.prog 31 #[.string s, .int .i64 f, .int .i64 t] w fun e w' => e = .returned (u32 0#32) ∧ Below w.heap.size w w' := by
  unfold maxLen at hs
  by_cases hf : f < 0
  · by_cases ht : (s.size : Int) < t
    · have h0 : s.size = 0 := by omega
      have h1 : s = ByteArray.empty := by apply ByteArray.ext; apply Array.eq_empty_of_size_eq_zero; exact h0
      subst h1
      clear h h0 hs
      go_enter Try.func31, Try.ntmps31
      go_wp2_with fail
      go_ret
      exact ⟨rfl, Below.refl _ _⟩
    · have h2 : t ≤ 0 := by omega
      clear h
      go_enter Try.func31, Try.ntmps31
      go_wp2_with fail
      go_ret
      exact ⟨rfl, Below.refl _ _⟩
  · by_cases ht : (s.size : Int) < t
    · have h2 : (s.size : Int) ≤ f := by omega
      clear h
      go_enter Try.func31, Try.ntmps31
      go_wp2_with fail
      go_ret
      exact ⟨rfl, Below.refl _ _⟩
    · have h2 : t ≤ f := by omega
      clear h
      go_enter Try.func31, Try.ntmps31
      go_wp2_with fail
      go_ret
      exact ⟨rfl, Below.refl _ _⟩

theorem Range_some (s : ByteArray) (hs : s.size ≤ maxLen) (f t : Int) (w : World) (h : max f 0 < min t s.size) :
    Calls Try.prog 31 #[.string s, .int .i64 f, .int .i64 t] w fun e w' => e = .returned (u32 (rangeW s f t)) ∧ Below w.heap.size w w' := by
  have hs' := hs
  unfold maxLen at hs'
  by_cases hf : f < 0
  · by_cases ht : (s.size : Int) < t
    · have h1 : 0 < s.size := by omega
      have HR := Lib.hid (rangeW_all s f t (by omega) (by omega) h1)
      have hne : ¬ s = ByteArray.empty := by rintro rfl; simp at h1
      clear h
      go_enter Try.func31, Try.ntmps31
      go_wp2_with (refine (Sum_any _ (by first | assumption | exact ext_le (by assumption)) _).mono ?_; rintro e w1 ⟨rfl, hb1⟩)
      go_ret
      exact ⟨by rw [HR.out]; rfl, hb1⟩
    · obtain ⟨b, rfl⟩ := Int.eq_ofNat_of_zero_le (a := t) (by omega)
      have h1 : 0 < b := by omega
      have HR := Lib.hid (rangeW_some s f b 0 b (by omega) (by omega) h1)
      clear h
      go_enter Try.func31, Try.ntmps31
      go_wp2_with (refine (Sum_any _ (by first | assumption | exact ext_le (by assumption)) _).mono ?_; rintro e w1 ⟨rfl, hb1⟩)
      go_ret
      exact ⟨by rw [HR.out]; rfl, hb1⟩
  · obtain ⟨a, rfl⟩ := Int.eq_ofNat_of_zero_le (a := f) (by omega)
    by_cases ht : (s.size : Int) < t
    · have h1 : a < s.size := by omega
      have HR := Lib.hid (rangeW_some s a t a s.size (by omega) (by omega) h1)
      clear h hf
      go_enter Try.func31, Try.ntmps31
      go_wp2_with (refine (Sum_any _ (by first | assumption | exact ext_le (by assumption)) _).mono ?_; rintro e w1 ⟨rfl, hb1⟩)
      go_ret
      exact ⟨by rw [HR.out]; rfl, hb1⟩
    · obtain ⟨b, rfl⟩ := Int.eq_ofNat_of_zero_le (a := t) (by omega)
      have h1 : a < b := by omega
      have HR := Lib.hid (rangeW_some s a b a b (by omega) (by omega) h1)
      clear h hf
      go_enter Try.func31, Try.ntmps31
      go_wp2_with (refine (Sum_any _ (by first | assumption | exact ext_le (by assumption)) _).mono ?_; rintro e w1 ⟨rfl, hb1⟩)
      go_ret
      exact ⟨by rw [HR.out]; rfl, hb1⟩

theorem Range_any (s : ByteArray) (hs : s.size ≤ maxLen) (f t : Int) (w : World) :
    Calls Try.prog 31 #[.string s, .int .i64 f, .int .i64 t] w fun e w' => e = .returned (u32 (rangeW s f t)) ∧ Below w.heap.size w w' := by
  by_cases h : min t s.size ≤ max f 0
  · rw [rangeW_none s f t h]; exact Range_none s hs f t w h
  · exact Range_some s hs f t w (by omega)

end Go.Proofs.Ytclhdgolcaacbaa.Crc
