/- Contracts and plain laws, put together: Crc, CrcB. -/
import Derived.Test.YtebkeocpojlepaaGreatDoorRows
import Derived.Test.YtebkeocpojlepaaGreatDoorG01
import Derived.WalkKit
import Derived.WalkSpells
import Derived.WalkLawsBesides
import Derived.BigQuiet
import Derived.Lib.Hide
import Derived.Deep.QuietTactic
/- Walks of package crc and of the document's answer for layer 2. -/
namespace Go.Proofs.YtebkeocpojlepaaGreatDoor.Crc
open Go.RowKit
set_option linter.unusedVariables false

abbrev u32 (c : W) : Value := .int .u32 (c.toNat : Int)

theorem ofInt32 (c : W) : BitVec.ofInt 32 (c.toNat : Int) = c := by
  apply BitVec.eq_of_toNat_eq
  rw [BitVec.toNat_ofInt]
  have := c.isLt
  omega

theorem wrap32u (n : Nat) (h : n < 4294967296) : IntKind.u32.wrap (n : Int) = n := by
  rw [IntKind.wrap_u32']; omega

theorem bits_xor (c d : W) : bits .xor .u32 (c.toNat : Int) (d.toNat : Int) = ((c ^^^ d).toNat : Int) := by
  show IntKind.u32.wrap _ = _
  show IntKind.u32.wrap ((BitVec.ofInt 32 _ ^^^ BitVec.ofInt 32 _).toNat : Int) = _
  rw [ofInt32, ofInt32]; exact wrap32u _ (c ^^^ d).isLt

theorem bits_and (c d : W) : bits .and .u32 (c.toNat : Int) (d.toNat : Int) = ((c &&& d).toNat : Int) := by
  show IntKind.u32.wrap ((BitVec.ofInt 32 _ &&& BitVec.ofInt 32 _).toNat : Int) = _
  rw [ofInt32, ofInt32]; exact wrap32u _ (c &&& d).isLt

theorem bits_byte (c : W) (b : UInt8) : bits .xor .u32 (c.toNat : Int) (b.toNat : Int) = ((c ^^^ b.toBitVec.setWidth 32).toNat : Int) := by
  have e : b.toNat = (b.toBitVec.setWidth 32).toNat := by
    rw [BitVec.toNat_setWidth, Nat.mod_eq_of_lt (by have := b.toNat_lt; show b.toNat < _; omega)]; rfl
  rw [e]; exact bits_xor _ _

theorem bits_15 (c : W) : bits .and .u32 (c.toNat : Int) 15 = ((c &&& 15#32).toNat : Int) := bits_and c 15#32

theorem shr4 (c : W) : (c.toNat : Int) / (16 : Int) = ((c >>> 4).toNat : Int) := by
  rw [BitVec.toNat_ushiftRight, Nat.shiftRight_eq_div_pow]; rfl

theorem lt15 (c : W) : (c &&& 15#32).toNat < 16 := by
  rw [BitVec.toNat_and]; exact Nat.and_lt_two_pow _ (n := 4) (by decide)

theorem lt15' (c : W) : ((c &&& 15#32).toNat : Int) < 16 := by have := lt15 c; omega

/-- a round of the closure: one bit -/
theorem round_bit (c : W) : bits .xor .u32 ((c.toNat : Int) / 2) (bits .and .u32 3988292384 (-bits .and .u32 (c.toNat : Int) 1 % 4294967296)) = ((bstep c).toNat : Int) := by
  have h1 : bits .and .u32 (c.toNat : Int) 1 = ((c &&& 1#32).toNat : Int) := bits_and c 1#32
  have h2 : (c.toNat : Int) / (2 : Int) = ((c >>> 1).toNat : Int) := by
    rw [BitVec.toNat_ushiftRight, Nat.shiftRight_eq_div_pow]; rfl
  rw [h1, h2]
  have hb : (c &&& 1#32).toNat = if c.getLsbD 0 then 1 else 0 := by
    rw [BitVec.toNat_and, show (1#32).toNat = 1 from rfl, Nat.and_one_is_mod]
    have : c.getLsbD 0 = c.toNat.testBit 0 := rfl
    rw [this, Nat.testBit_zero]
    rcases Nat.mod_two_eq_zero_or_one c.toNat with h | h <;> simp [h]
  rw [hb]
  unfold bstep
  cases c.getLsbD 0
  · rw [if_neg (by simp), if_neg (by simp)]
    exact (by
      have := bits_and poly 0#32
      show bits .xor .u32 _ (bits .and .u32 3988292384 0) = _
      rw [show bits .and .u32 3988292384 0 = ((0#32).toNat : Int) from by decide]
      exact bits_xor _ _)
  · rw [if_pos rfl, if_pos rfl]
    exact (by
      show bits .xor .u32 _ (bits .and .u32 3988292384 4294967295) = _
      rw [show bits .and .u32 3988292384 4294967295 = (poly.toNat : Int) from by decide]
      exact bits_xor _ _)

theorem shift_any (c : W) (w : World) :
    Calls Tryz.prog 154 #[u32 c, .int .i64 4] w fun e w' => e = .returned (u32 (bsteps 4 c)) ∧ w = w' := by
  have hc : c.toNat < 4294967296 := c.isLt
  go_enter Tryz.func154, Tryz.ntmps154
  go_wp2
  go_loop [0, 6] (fun x i => ∃ k : Nat, k ≤ 4 ∧ i = .int .i64 k ∧ x = u32 (bsteps k c)) (fun _ i => 4 - (intOf i).toNat)
  case atStart => exact ⟨0, by omega, rfl, rfl⟩
  case round =>
    obtain ⟨k, hk, rfl, rfl⟩ := hrel
    by_cases hlt : k < 4
    · go_wp2
      go_round
      case rel => exact ⟨k + 1, by omega, by go_num, by rw [round_bit, bsteps_add]; rfl⟩
      case measure => simp [intOf]; omega
    · have hk4 : k = 4 := by omega
      have HK := Lib.hid hk4; clear hk4
      go_wp2
      go_ret
      exact ⟨by show Ending.returned (u32 (bsteps k c)) = _; rw [HK.out], rfl⟩

/-- what four bits do to a small number -/
def tnib (k : Nat) : W := bsteps 4 (BitVec.ofNat 32 k)

theorem shift_nat (k : Nat) (hk : k < 16) (w : World) :
    Calls Tryz.prog 154 #[.int .u32 (k : Int), .int .i64 4] w fun e w' => e = .returned (.int .u32 ((tnib k).toNat : Int)) ∧ w = w' := by
  have h : (k : Int) = (((BitVec.ofNat 32 k : W)).toNat : Int) := by rw [BitVec.toNat_ofNat, Nat.mod_eq_of_lt (by omega)]
  rw [h]
  exact shift_any _ _

/-- the table in memory -/
def IsTab (w : World) (a : Nat) : Prop := ∀ j, j < 16 → w.cell? ⟨a, j, none⟩ = some (u32 (tnib j))

theorem tab_at {w : World} {a : Nat} (h : IsTab w a) (d : W) : w.cell? ⟨a, (d &&& 15#32).toNat, none⟩ = some (u32 (bsteps 4 (d &&& 15#32))) := by
  rw [h _ (lt15 d)]; unfold tnib; rw [BitVec.ofNat_toNat]; simp

theorem step_any (c : W) (b : UInt8) (a : Nat) (w : World) (h : IsTab w a) :
    Calls Tryz.prog 152 #[.pointer (some ⟨a, 0, none⟩), u32 c, .int .u8 b.toNat] w fun e w' => e = .returned (u32 (step c b)) ∧ w = w' := by
  obtain ⟨d, hd⟩ : ∃ d : W, d = c ^^^ b.toBitVec.setWidth 32 := ⟨_, rfl⟩
  obtain ⟨x, hx⟩ : ∃ x : W, x = (d >>> 4) ^^^ bsteps 4 (d &&& 15#32) := ⟨_, rfl⟩
  have hs : step c b = (x >>> 4) ^^^ bsteps 4 (x &&& 15#32) := by rw [step_nibbles, hx, hd]
  have hb : b.toNat < 256 := b.toNat_lt
  have t1 := tab_at h d
  have t2 := tab_at h x
  have l1 := lt15 d
  have l2 := lt15 x
  have e1 : bits .xor .u32 (c.toNat : Int) (b.toNat : Int) = (d.toNat : Int) := by rw [bits_byte, hd]
  have f1 := bits_15 d
  have f2 := bits_15 x
  have s1 := shr4 d
  have s2 := shr4 x
  have e2 : bits .xor .u32 ((d >>> 4).toNat : Int) ((bsteps 4 (d &&& 15#32)).toNat : Int) = (x.toNat : Int) := by rw [bits_xor, hx]
  have e3 : bits .xor .u32 ((x >>> 4).toNat : Int) ((bsteps 4 (x &&& 15#32)).toNat : Int) = ((step c b).toNat : Int) := by rw [bits_xor, hs]
  clear hs hd hx h
  generalize bsteps 4 (d &&& 15#32) = B1 at *
  generalize bsteps 4 (x &&& 15#32) = B2 at *
  generalize d &&& 15#32 = n1 at *
  generalize x &&& 15#32 = n2 at *
  generalize d >>> 4 = z1 at *
  generalize x >>> 4 = z2 at *
  generalize step c b = r at *
  have m1 : (n1.toNat : Int) < 16 := by omega
  have m2 : (n2.toNat : Int) < 16 := by omega
  go_enter Tryz.func152, Tryz.ntmps152
  go_wp2
  go_ret
  exact ⟨rfl, rfl⟩

def tabv (k : Nat) : Array Value := #[tv k 0, tv k 1, tv k 2, tv k 3, tv k 4, tv k 5, tv k 6, tv k 7, tv k 8, tv k 9, tv k 10, tv k 11, tv k 12, tv k 13, tv k 14, tv k 15]
where tv (k j : Nat) : Value := if j < k then .int .u32 ((tnib j).toNat : Int) else .int .u32 0

theorem tabv_size (k : Nat) : (tabv k).size = 16 := rfl
theorem tabv_get (k j : Nat) (h : j < 16) : (tabv k)[j]? = some (tabv.tv k j) := by
  rcases (show j = 0 ∨ j = 1 ∨ j = 2 ∨ j = 3 ∨ j = 4 ∨ j = 5 ∨ j = 6 ∨ j = 7 ∨ j = 8 ∨ j = 9 ∨ j = 10 ∨ j = 11 ∨ j = 12 ∨ j = 13 ∨ j = 14 ∨ j = 15 from by omega) with rfl | rfl | rfl | rfl | rfl | rfl | rfl | rfl | rfl | rfl | rfl | rfl | rfl | rfl | rfl | rfl <;> rfl
theorem tabv_set (k : Nat) (h : k < 16) : (tabv k).setIfInBounds k (.int .u32 ((tnib k).toNat : Int)) = tabv (k + 1) := by
  apply Array.ext_getElem?
  intro i
  rw [Array.getElem?_setIfInBounds]
  by_cases hi : i < 16
  · rw [tabv_get _ _ hi, tabv_get _ _ hi]
    by_cases e : k = i
    · subst e; rw [if_pos rfl, if_pos (by rw [tabv_size]; exact h)]; unfold tabv.tv; rw [if_pos (by omega)]
    · rw [if_neg e]; unfold tabv.tv; by_cases h2 : i < k
      · rw [if_pos h2, if_pos (by omega)]
      · rw [if_neg h2, if_neg (by omega)]
  · rw [if_neg (by omega), Array.getElem?_eq_none (by rw [tabv_size]; omega), Array.getElem?_eq_none (by rw [tabv_size]; omega)]

/-- what four bits do, written out -/
abbrev tabLit : Array Value := #[.int .u32 0, .int .u32 498536548, .int .u32 997073096, .int .u32 651767980, .int .u32 1994146192, .int .u32 1802195444, .int .u32 1303535960, .int .u32 1342533948, .int .u32 3988292384, .int .u32 4027552580, .int .u32 3604390888, .int .u32 3412177804, .int .u32 2607071920, .int .u32 2262029012, .int .u32 2685067896, .int .u32 3183342108]
theorem tabv_last : tabv 16 = tabLit := by kernel_rfl

theorem tabv_first : tabv 0 = #[.int .u32 0, .int .u32 0, .int .u32 0, .int .u32 0, .int .u32 0, .int .u32 0, .int .u32 0, .int .u32 0, .int .u32 0, .int .u32 0, .int .u32 0, .int .u32 0, .int .u32 0, .int .u32 0, .int .u32 0, .int .u32 0] := by kernel_rfl

set_option maxRecDepth 100000 in
theorem table_any (w : World) :
    Calls Tryz.prog 151 #[] w fun e w' => e = .returned (.agg tabLit) ∧ Below w.heap.size w w' := by
  go_enter Tryz.func151, Tryz.ntmps151
  go_wp2
  go_loopw [4] (fun i wr => ∃ k : Nat, k ≤ 16 ∧ i = .int .i64 k ∧ wr = (w.alloc (.cells (tabv 0) 232)).alloc (.cells (tabv k) 232)) (fun i _ => 16 - (intOf i).toNat)
  case atStart => exact ⟨0, by omega, rfl, rfl⟩
  case round =>
    obtain ⟨k, hk, rfl, rfl⟩ := hrel
    by_cases hlt : k < 16
    · have hg := tabv_get k k hlt
      have HS := Lib.hid (tabv_set k hlt)
      have hsz := tabv_size k
      go_wp2_with (refine (shift_nat k hlt _).mono ?_; rintro e w' ⟨rfl, rfl⟩)
      go_roundw
      case rel => exact ⟨k + 1, by omega, by go_num, by rw [HS.out]⟩
      case measure => simp [intOf]; omega
    · have hk16 : k = 16 := by omega
      subst hk16
      have ht := tabv_last
      have ht0 := tabv_first
      go_wp2
      refine bodyPost_ret (v := .agg tabLit) ?_ rfl ⟨rfl, ((Below.refl _ _).alloc (Nat.le_refl _) _).alloc (by simp) _⟩
      simp [results, Tryz.f151, go_sem]

/-- the table, stored in a block of its own -/
theorem isTab_new (w : World) : IsTab (w.alloc (.cells tabLit 232)) w.heap.size := by
  intro j hj
  rw [World.cell?_alloc_new]
  rcases (show j = 0 ∨ j = 1 ∨ j = 2 ∨ j = 3 ∨ j = 4 ∨ j = 5 ∨ j = 6 ∨ j = 7 ∨ j = 8 ∨ j = 9 ∨ j = 10 ∨ j = 11 ∨ j = 12 ∨ j = 13 ∨ j = 14 ∨ j = 15 from by omega) with rfl | rfl | rfl | rfl | rfl | rfl | rfl | rfl | rfl | rfl | rfl | rfl | rfl | rfl | rfl | rfl <;> kernel_rfl

theorem isTab_below {B : Nat} {w w' : World} {a : Nat} (h : IsTab w a) (hb : Below B w w') (ha : a < B) : IsTab w' a := fun j hj => (hb.cell (p := ⟨a, j, none⟩) ha).trans (h j hj)

end Go.Proofs.YtebkeocpojlepaaGreatDoor.Crc

/- Walks of crc.Sum, crc.Range and of the document's answers for layer 2. -/
namespace Go.Proofs.YtebkeocpojlepaaGreatDoor.Crc
open Go.RowKit
set_option linter.unusedVariables false

theorem byte_at (s : ByteArray) (k : Nat) (h : k < s.size) : s.data.toList.take (k + 1) = s.data.toList.take k ++ [s[k]] := by
  rw [List.take_succ_eq_append_getElem (by simpa using h)]; rfl

/-- the sum of a text -/
def sumS (s : ByteArray) : W := sum s.data.toList

/-- the sum as it stands behind some bytes -/
def runA (l : List UInt8) : W := run (BitVec.allOnes 32) l

theorem runA_at (s : ByteArray) (k : Nat) (h : k < s.size) : step (runA (s.data.toList.take k)) s[k] = runA (s.data.toList.take (k + 1)) := by
  unfold runA; rw [byte_at s k h, run_snoc]

theorem ones : (4294967295 : Int) = ((BitVec.allOnes 32).toNat : Int) := by decide

theorem runA_nil : (.int .u32 4294967295 : Value) = u32 (runA []) := by rw [ones]; rfl

theorem runA_end (s : ByteArray) : bits .xor .u32 IntKind.u32.max ((runA (s.data.toList.take s.size)).toNat : Int) = ((sumS s).toNat : Int) := by
  rw [List.take_of_length_le (by simp), show IntKind.u32.max = 4294967295 from rfl, ones, bits_xor, BitVec.allOnes_xor]; rfl

theorem runA_end' (s : ByteArray) : bits .xor .u32 ((runA (s.data.toList.take s.size)).toNat : Int) 4294967295 = ((sumS s).toNat : Int) := by
  rw [List.take_of_length_le (by simp), ones, bits_xor, BitVec.xor_allOnes]; rfl

theorem Sum_any (s : ByteArray) (hs : s.size ≤ maxLen) (w : World) :
    Calls Tryz.prog 145 #[.string s] w fun e w' => e = .returned (u32 (sumS s)) ∧ Below w.heap.size w w' := by
  unfold maxLen at hs
  go_enter Tryz.func145, Tryz.ntmps145
  go_wp2_with (first
    | (go_at_call 151; refine (table_any _).mono ?_; rintro e w1 ⟨rfl, hb1⟩))
  have ht := isTab_new w1
  have hbl := hb1.alloc hb1.size (.cells tabLit 232)
  have hlt : w1.heap.size < (w1.alloc (.cells tabLit 232)).heap.size := by simp
  generalize (w1.alloc (.cells tabLit 232)) = W1 at *
  generalize w1.heap.size = A1 at *
  generalize tabLit = TL at *
  go_loop [4, 9] (fun c i => ∃ k : Nat, k ≤ s.size ∧ i = .int .i64 k ∧ c = u32 (runA (s.data.toList.take k))) (fun _ i => s.size - (intOf i).toNat)
  case atStart => exact ⟨0, by omega, rfl, runA_nil⟩
  case round =>
    obtain ⟨k, hk, rfl, rfl⟩ := hrel
    by_cases hlt : k < s.size
    · have HR := Lib.hid (runA_at s k hlt)
      go_wp2_with (refine (step_any _ _ _ _ ht).mono ?_; rintro e w2 ⟨rfl, rfl⟩)
      go_round
      case rel => exact ⟨k + 1, by omega, by go_num, by rw [HR.out]⟩
      case measure => simp [intOf]; omega
    · have hk2 : k = s.size := by omega
      subst hk2
      have he := runA_end s
      go_wp2
      go_ret
      exact ⟨rfl, hbl⟩

/-! the document's -/

theorem shr_bit (c : W) : (c.toNat : Int) / (2 : Int) = ((c >>> 1).toNat : Int) := by
  rw [BitVec.toNat_ushiftRight, Nat.shiftRight_eq_div_pow]; rfl

theorem low_bit (c : W) : bits .and .u32 (c.toNat : Int) 1 = if c.getLsbD 0 then 1 else 0 := by
  rw [show (1 : Int) = ((1#32 : W).toNat : Int) from rfl, bits_and]
  rw [BitVec.toNat_and, show (1#32).toNat = 1 from rfl, Nat.and_one_is_mod]
  have : c.getLsbD 0 = c.toNat.testBit 0 := rfl
  rw [this, Nat.testBit_zero]
  rcases Nat.mod_two_eq_zero_or_one c.toNat with h | h <;> simp [h]

def bitsOf : Nat → W → W := bsteps
theorem bitsOf_even (k : Nat) (d : W) (h : bits .and .u32 ((bitsOf k d).toNat : Int) 1 = 0) : (((bitsOf k d).toNat : Int) / (2 : Int)) = ((bitsOf (k + 1) d).toNat : Int) := by
  have hb : (bitsOf k d).getLsbD 0 = false := by
    cases h0 : (bitsOf k d).getLsbD 0
    · rfl
    · rw [low_bit, h0] at h; simp at h
  show _ = ((bsteps (k + 1) d).toNat : Int)
  rw [bsteps_add]
  show _ = ((bstep (bitsOf k d)).toNat : Int)
  rw [bstep_even _ hb]; exact shr_bit _
theorem bitsOf_odd (k : Nat) (d : W) (h : bits .and .u32 ((bitsOf k d).toNat : Int) 1 = 1) : bits .xor .u32 (((bitsOf k d).toNat : Int) / (2 : Int)) 3988292384 = ((bitsOf (k + 1) d).toNat : Int) := by
  have hb : (bitsOf k d).getLsbD 0 = true := by
    cases h0 : (bitsOf k d).getLsbD 0
    · rw [low_bit, h0] at h; simp at h
    · rfl
  show _ = ((bsteps (k + 1) d).toNat : Int)
  rw [bsteps_add]
  show _ = ((bstep (bitsOf k d)).toNat : Int)
  unfold bstep
  rw [hb, if_pos rfl, shr_bit]
  exact bits_xor _ poly
theorem bitsOf_low (k : Nat) (d : W) : bits .and .u32 ((bitsOf k d).toNat : Int) 1 = 0 ∨ bits .and .u32 ((bitsOf k d).toNat : Int) 1 = 1 := by
  rw [low_bit]; split <;> simp

/-- the sum of a part -/
def rangeW (s : ByteArray) (f t : Int) : W :=
  if min t s.size ≤ max f 0 then 0#32 else sumS (s.extract (max f 0).toNat (min t s.size).toNat)

theorem rangeW_none (s : ByteArray) (f t : Int) (h : min t s.size ≤ max f 0) : rangeW s f t = 0#32 := by unfold rangeW; rw [if_pos h]
theorem rangeW_some (s : ByteArray) (f t : Int) (a b : Nat) (ha : max f 0 = a) (hb : min t s.size = b) (h : a < b) : rangeW s f t = sumS (s.extract a b) := by
  unfold rangeW; rw [if_neg (by omega), ha, hb]; rfl
theorem rangeW_all (s : ByteArray) (f t : Int) (hf : f ≤ 0) (ht : (s.size : Int) ≤ t) (h : 0 < s.size) : rangeW s f t = sumS s := by
  rw [rangeW_some s f t 0 s.size (by omega) (by omega) h]; simp
theorem zero32 : (.int .u32 0 : Value) = u32 0#32 := rfl
theorem ext_le {s : ByteArray} {a b : Nat} (hs : s.size ≤ maxLen) : (s.extract a b).size ≤ maxLen := by
  rw [ByteArray.size_extract]; omega

theorem Range_none (s : ByteArray) (hs : s.size ≤ maxLen) (f t : Int) (w : World) (h : min t s.size ≤ max f 0) :
    Calls Tryz.prog 150 #[.string s, .int .i64 f, .int .i64 t] w fun e w' => e = .returned (u32 0#32) ∧ Below w.heap.size w w' := by
  unfold maxLen at hs
  by_cases hf : f < 0
  · by_cases ht : (s.size : Int) < t
    · have h0 : s.size = 0 := by omega
      have h1 : s = ByteArray.empty := by apply ByteArray.ext; apply Array.eq_empty_of_size_eq_zero; exact h0
      subst h1
      clear h h0 hs
      go_enter Tryz.func150, Tryz.ntmps150
      go_wp2_with fail
      go_ret
      exact ⟨rfl, Below.refl _ _⟩
    · have h2 : t ≤ 0 := by omega
      clear h
      go_enter Tryz.func150, Tryz.ntmps150
      go_wp2_with fail
      go_ret
      exact ⟨rfl, Below.refl _ _⟩
  · by_cases ht : (s.size : Int) < t
    · have h2 : (s.size : Int) ≤ f := by omega
      clear h
      go_enter Tryz.func150, Tryz.ntmps150
      go_wp2_with fail
      go_ret
      exact ⟨rfl, Below.refl _ _⟩
    · have h2 : t ≤ f := by omega
      clear h
      go_enter Tryz.func150, Tryz.ntmps150
      go_wp2_with fail
      go_ret
      exact ⟨rfl, Below.refl _ _⟩

theorem Range_some (s : ByteArray) (hs : s.size ≤ maxLen) (f t : Int) (w : World) (h : max f 0 < min t s.size) :
    Calls Tryz.prog 150 #[.string s, .int .i64 f, .int .i64 t] w fun e w' => e = .returned (u32 (rangeW s f t)) ∧ Below w.heap.size w w' := by
  have hs' := hs
  unfold maxLen at hs'
  by_cases hf : f < 0
  · by_cases ht : (s.size : Int) < t
    · have h1 : 0 < s.size := by omega
      have HR := Lib.hid (rangeW_all s f t (by omega) (by omega) h1)
      have hne : ¬ s = ByteArray.empty := by rintro rfl; simp at h1
      clear h
      go_enter Tryz.func150, Tryz.ntmps150
      go_wp2_with (refine (Sum_any _ (by first | assumption | exact ext_le (by assumption)) _).mono ?_; rintro e w1 ⟨rfl, hb1⟩)
      go_ret
      exact ⟨by rw [HR.out]; rfl, hb1⟩
    · obtain ⟨b, rfl⟩ := Int.eq_ofNat_of_zero_le (a := t) (by omega)
      have h1 : 0 < b := by omega
      have HR := Lib.hid (rangeW_some s f b 0 b (by omega) (by omega) h1)
      clear h
      go_enter Tryz.func150, Tryz.ntmps150
      go_wp2_with (refine (Sum_any _ (by first | assumption | exact ext_le (by assumption)) _).mono ?_; rintro e w1 ⟨rfl, hb1⟩)
      go_ret
      exact ⟨by rw [HR.out]; rfl, hb1⟩
  · obtain ⟨a, rfl⟩ := Int.eq_ofNat_of_zero_le (a := f) (by omega)
    by_cases ht : (s.size : Int) < t
    · have h1 : a < s.size := by omega
      have HR := Lib.hid (rangeW_some s a t a s.size (by omega) (by omega) h1)
      clear h hf
      go_enter Tryz.func150, Tryz.ntmps150
      go_wp2_with (refine (Sum_any _ (by first | assumption | exact ext_le (by assumption)) _).mono ?_; rintro e w1 ⟨rfl, hb1⟩)
      go_ret
      exact ⟨by rw [HR.out]; rfl, hb1⟩
    · obtain ⟨b, rfl⟩ := Int.eq_ofNat_of_zero_le (a := t) (by omega)
      have h1 : a < b := by omega
      have HR := Lib.hid (rangeW_some s a b a b (by omega) (by omega) h1)
      clear h hf
      go_enter Tryz.func150, Tryz.ntmps150
      go_wp2_with (refine (Sum_any _ (by first | assumption | exact ext_le (by assumption)) _).mono ?_; rintro e w1 ⟨rfl, hb1⟩)
      go_ret
      exact ⟨by rw [HR.out]; rfl, hb1⟩

theorem Range_any (s : ByteArray) (hs : s.size ≤ maxLen) (f t : Int) (w : World) :
    Calls Tryz.prog 150 #[.string s, .int .i64 f, .int .i64 t] w fun e w' => e = .returned (u32 (rangeW s f t)) ∧ Below w.heap.size w w' := by
  by_cases h : min t s.size ≤ max f 0
  · rw [rangeW_none s f t h]; exact Range_none s hs f t w h
  · exact Range_some s hs f t w (by omega)

end Go.Proofs.YtebkeocpojlepaaGreatDoor.Crc
