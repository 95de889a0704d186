/- Walks of package crc and of the document's answer for layer 2. -/
import Derived.Test.YtclhdgolcaacbaaRows
import Derived.Test.YtclhdgolcaacbaaCrcPlain
import Derived.WalkKit
import Derived.WalkSpells
import Derived.WalkLawsBesides
import Derived.BigQuiet
import Derived.Lib.Hide
import Derived.Deep.QuietTactic
namespace Go.Proofs.Ytclhdgolcaacbaa.Crc
open Go.RowKit
set_option linter.unusedVariables false

abbrev u32 (c : W) : Value := .int .u32 (c.toNat : Int)

theorem ofInt32 (c : W) : BitVec.ofInt 32 (c.toNat : Int) = c := by
  apply BitVec.eq_of_toNat_eq
  rw [BitVec.toNat_ofInt]
  have := c.isLt
  omega

theorem wrap32u (n : Nat) (h : n < 4294967296) : IntKind.u32.wrap (n : Int) = n := by
  rw [IntKind.wrap_u32']; omega

theorem bits_xor (c d : W) : bits .xor .u32 (c.toNat : Int) (d.toNat : Int) = ((c ^^^ d).toNat : Int) := by
  show IntKind.u32.wrap _ = _
  show IntKind.u32.wrap ((BitVec.ofInt 32 _ ^^^ BitVec.ofInt 32 _).toNat : Int) = _
  rw [ofInt32, ofInt32]; exact wrap32u _ (c ^^^ d).isLt

theorem bits_and (c d : W) : bits .and .u32 (c.toNat : Int) (d.toNat : Int) = ((c &&& d).toNat : Int) := by
  show IntKind.u32.wrap ((BitVec.ofInt 32 _ &&& BitVec.ofInt 32 _).toNat : Int) = _
  rw [ofInt32, ofInt32]; exact wrap32u _ (c &&& d).isLt

theorem bits_byte (c : W) (b : UInt8) : bits .xor .u32 (c.toNat : Int) (b.toNat : Int) = ((c ^^^ b.toBitVec.setWidth 32).toNat : Int) := by
  have e : b.toNat = (b.toBitVec.setWidth 32).toNat := by
    rw [BitVec.toNat_setWidth, Nat.mod_eq_of_lt (by have := b.toNat_lt; show b.toNat < _; omega)]; rfl
  rw [e]; exact bits_xor _ _

theorem bits_15 (c : W) : bits .and .u32 (c.toNat : Int) 15 = ((c &&& 15#32).toNat : Int) := bits_and c 15#32

theorem shr4 (c : W) : (c.toNat : Int) / (16 : Int) = ((c >>> 4).toNat : Int) := by
  rw [BitVec.toNat_ushiftRight, Nat.shiftRight_eq_div_pow]; rfl

theorem lt15 (c : W) : (c &&& 15#32).toNat < 16 := by
  rw [BitVec.toNat_and]; exact Nat.and_lt_two_pow _ (n := 4) (by decide)

theorem lt15' (c : W) : ((c &&& 15#32).toNat : Int) < 16 := by have := lt15 c; omega

/-- a round of the closure: one bit -/
theorem round_bit (c : W) : bits .xor .u32 ((c.toNat : Int) / 2) (bits .and .u32 3988292384 (-bits .and .u32 (c.toNat : Int) 1 % 4294967296)) = ((bstep c).toNat : Int) := by
  have h1 : bits .and .u32 (c.toNat : Int) 1 = ((c &&& 1#32).toNat : Int) := bits_and c 1#32
  have h2 : (c.toNat : Int) / (2 : Int) = ((c >>> 1).toNat : Int) := by
    rw [BitVec.toNat_ushiftRight, Nat.shiftRight_eq_div_pow]; rfl
  rw [h1, h2]
  have hb : (c &&& 1#32).toNat = if c.getLsbD 0 then 1 else 0 := by
    rw [BitVec.toNat_and, show (1#32).toNat = 1 from rfl, Nat.and_one_is_mod]
    have : c.getLsbD 0 = c.toNat.testBit 0 := rfl
    rw [this, Nat.testBit_zero]
    rcases Nat.mod_two_eq_zero_or_one c.toNat with h | h <;> simp [h]
  rw [hb]
  unfold bstep
  cases c.getLsbD 0
  · rw [if_neg (by simp), if_neg (by simp)]
    exact (by
      have := bits_and poly 0#32
      show bits .xor .u32 _ (bits .and .u32 3988292384 0) = _
      rw [show bits .and .u32 3988292384 0 = ((0#32).toNat : Int) from by decide]
      exact bits_xor _ _)
  · rw [if_pos rfl, if_pos rfl]
    exact (by
      show bits .xor .u32 _ (bits .and .u32 3988292384 4294967295) = _
      rw [show bits .and .u32 3988292384 4294967295 = (poly.toNat : Int) from by decide]
      exact bits_xor _ _)

theorem shift_any (c : W) (w : World) :
    Calls Try.prog 40 #[u32 c, .int .i64 4] w fun e w' => e = .returned (u32 (bsteps 4 c)) ∧ w = w' := by
  have hc : c.toNat < 4294967296 := c.isLt
  go_enter Try.func40, Try.ntmps40
  go_wp2
  go_loop [0, 6] (fun x i => ∃ k : Nat, k ≤ 4 ∧ i = .int .i64 k ∧ x = u32 (bsteps k c)) (fun _ i => 4 - (intOf i).toNat)
  case atStart => exact ⟨0, by omega, rfl, rfl⟩
  case round =>
    obtain ⟨k, hk, rfl, rfl⟩ := hrel
    by_cases hlt : k < 4
    · go_wp2
      go_round
      case rel => exact ⟨k + 1, by omega, by go_num, by rw [round_bit, bsteps_add]; rfl⟩
      case measure => simp [intOf]; omega
    · have hk4 : k = 4 := by omega
      have HK := Lib.hid hk4; clear hk4
      go_wp2
      go_ret
      exact ⟨by show Ending.returned (u32 (bsteps k c)) = _; rw [HK.out], rfl⟩

/-- what four bits do to a small number -/
def tnib (k : Nat) : W := bsteps 4 (BitVec.ofNat 32 k)

theorem shift_nat (k : Nat) (hk : k < 16) (w : World) :
    Calls Try.prog 40 #[.int .u32 (k : Int), .int .i64 4] w fun e w' => e = .returned (.int .u32 ((tnib k).toNat : Int)) ∧ w = w' := by
  have h : (k : Int) = (((BitVec.ofNat 32 k : W)).toNat : Int) := by rw [BitVec.toNat_ofNat, Nat.mod_eq_of_lt (by omega)]
  rw [h]
  exact shift_any _ _

/-- the table in memory -/
def IsTab (w : World) (a : Nat) : Prop := ∀ j, j < 16 → w.cell? ⟨a, j, none⟩ = some (u32 (tnib j))

theorem tab_at {w : World} {a : Nat} (h : IsTab w a) (d : W) : w.cell? ⟨a, (d &&& 15#32).toNat, none⟩ = some (u32 (bsteps 4 (d &&& 15#32))) := by
  rw [h _ (lt15 d)]; unfold tnib; rw [BitVec.ofNat_toNat]; simp

theorem step_any (c : W) (b : UInt8) (a : Nat) (w : World) (h : IsTab w a) :
    Calls Try.prog 36 #[.pointer (some ⟨a, 0, none⟩), u32 c, .int .u8 b.toNat] w fun e w' => e = .returned (u32 (step c b)) ∧ w = w' := by
  obtain ⟨d, hd⟩ : ∃ d : W, d = c ^^^ b.toBitVec.setWidth 32 := ⟨_, rfl⟩
  obtain ⟨x, hx⟩ : ∃ x : W, x = (d >>> 4) ^^^ bsteps 4 (d &&& 15#32) := ⟨_, rfl⟩
  have hs : step c b = (x >>> 4) ^^^ bsteps 4 (x &&& 15#32) := by rw [step_nibbles, hx, hd]
  have hb : b.toNat < 256 := b.toNat_lt
  have t1 := tab_at h d
  have t2 := tab_at h x
  have l1 := lt15 d
  have l2 := lt15 x
  have e1 : bits .xor .u32 (c.toNat : Int) (b.toNat : Int) = (d.toNat : Int) := by rw [bits_byte, hd]
  have f1 := bits_15 d
  have f2 := bits_15 x
  have s1 := shr4 d
  have s2 := shr4 x
  have e2 : bits .xor .u32 ((d >>> 4).toNat : Int) ((bsteps 4 (d &&& 15#32)).toNat : Int) = (x.toNat : Int) := by rw [bits_xor, hx]
  have e3 : bits .xor .u32 ((x >>> 4).toNat : Int) ((bsteps 4 (x &&& 15#32)).toNat : Int) = ((step c b).toNat : Int) := by rw [bits_xor, hs]
  clear hs hd hx h
  generalize bsteps 4 (d &&& 15#32) = B1 at *
  generalize bsteps 4 (x &&& 15#32) = B2 at *
  generalize d &&& 15#32 = n1 at *
  generalize x &&& 15#32 = n2 at *
  generalize d >>> 4 = z1 at *
  generalize x >>> 4 = z2 at *
  generalize step c b = r at *
  have m1 : (n1.toNat : Int) < 16 := by omega
  have m2 : (n2.toNat : Int) < 16 := by omega
  go_enter Try.func36, Try.ntmps36
  go_wp2
  go_ret
  exact ⟨rfl, rfl⟩

def tabv (k : Nat) : Array Value := #[tv k 0, tv k 1, tv k 2, tv k 3, tv k 4, tv k 5, tv k 6, tv k 7, tv k 8, tv k 9, tv k 10, tv k 11, tv k 12, tv k 13, tv k 14, tv k 15]
where tv (k j : Nat) : Value := if j < k then .int .u32 ((tnib j).toNat : Int) else .int .u32 0

theorem tabv_size (k : Nat) : (tabv k).size = 16 := rfl
theorem tabv_get (k j : Nat) (h : j < 16) : (tabv k)[j]? = some (tabv.tv k j) := by
  rcases (show j = 0 ∨ j = 1 ∨ j = 2 ∨ j = 3 ∨ j = 4 ∨ j = 5 ∨ j = 6 ∨ j = 7 ∨ j = 8 ∨ j = 9 ∨ j = 10 ∨ j = 11 ∨ j = 12 ∨ j = 13 ∨ j = 14 ∨ j = 15 from by omega) with rfl | rfl | rfl | rfl | rfl | rfl | rfl | rfl | rfl | rfl | rfl | rfl | rfl | rfl | rfl | rfl <;> rfl
theorem tabv_set (k : Nat) (h : k < 16) : (tabv k).setIfInBounds k (.int .u32 ((tnib k).toNat : Int)) = tabv (k + 1) := by
  apply Array.ext_getElem?
  intro i
  rw [Array.getElem?_setIfInBounds]
  by_cases hi : i < 16
  · rw [tabv_get _ _ hi, tabv_get _ _ hi]
    by_cases e : k = i
    · subst e; rw [if_pos rfl, if_pos (by rw [tabv_size]; exact h)]; unfold tabv.tv; rw [if_pos (by omega)]
    · rw [if_neg e]; unfold tabv.tv; by_cases h2 : i < k
      · rw [if_pos h2, if_pos (by omega)]
      · rw [if_neg h2, if_neg (by omega)]
  · rw [if_neg (by omega), Array.getElem?_eq_none (by rw [tabv_size]; omega), Array.getElem?_eq_none (by rw [tabv_size]; omega)]

/-- what four bits do, written out -/
abbrev tabLit : Array Value := #[.int .u32 0, .int .u32 498536548, .int .u32 997073096, .int .u32 651767980, .int .u32 1994146192, .int .u32 1802195444, .int .u32 1303535960, .int .u32 1342533948, .int .u32 3988292384, .int .u32 4027552580, .int .u32 3604390888, .int .u32 3412177804, .int .u32 2607071920, .int .u32 2262029012, .int .u32 2685067896, .int .u32 3183342108]
theorem tabv_last : tabv 16 = tabLit := by kernel_rfl

theorem tabv_first : tabv 0 = #[.int .u32 0, .int .u32 0, .int .u32 0, .int .u32 0, .int .u32 0, .int .u32 0, .int .u32 0, .int .u32 0, .int .u32 0, .int .u32 0, .int .u32 0, .int .u32 0, .int .u32 0, .int .u32 0, .int .u32 0, .int .u32 0] := by kernel_rfl

set_option maxRecDepth 100000 in
theorem table_any (w : World) :
    Calls Try.prog 35 #[] w fun e w' => e = .returned (.agg tabLit) ∧ Below w.heap.size w w' := by
  go_enter Try.func35, Try.ntmps35
  go_wp2
  go_loopw [4] (fun i wr => ∃ k : Nat, k ≤ 16 ∧ i = .int .i64 k ∧ wr = (w.alloc (.cells (tabv 0) 57)).alloc (.cells (tabv k) 57)) (fun i _ => 16 - (intOf i).toNat)
  case atStart => exact ⟨0, by omega, rfl, rfl⟩
  case round =>
    obtain ⟨k, hk, rfl, rfl⟩ := hrel
    by_cases hlt : k < 16
    · have hg := tabv_get k k hlt
      have HS := Lib.hid (tabv_set k hlt)
      have hsz := tabv_size k
      go_wp2_with (refine (shift_nat k hlt _).mono ?_; rintro e w' ⟨rfl, rfl⟩)
      go_roundw
      case rel => exact ⟨k + 1, by omega, by go_num, by rw [HS.out]⟩
      case measure => simp [intOf]; omega
    · have hk16 : k = 16 := by omega
      subst hk16
      have ht := tabv_last
      have ht0 := tabv_first
      go_wp2
      refine bodyPost_ret (v := .agg tabLit) ?_ rfl ⟨rfl, ((Below.refl _ _).alloc (Nat.le_refl _) _).alloc (by simp) _⟩
      simp [results, Try.f35, go_sem]

/-- the table, stored in a block of its own -/
theorem isTab_new (w : World) : IsTab (w.alloc (.cells tabLit 57)) w.heap.size := by
  intro j hj
  rw [World.cell?_alloc_new]
  rcases (show j = 0 ∨ j = 1 ∨ j = 2 ∨ j = 3 ∨ j = 4 ∨ j = 5 ∨ j = 6 ∨ j = 7 ∨ j = 8 ∨ j = 9 ∨ j = 10 ∨ j = 11 ∨ j = 12 ∨ j = 13 ∨ j = 14 ∨ j = 15 from by omega) with rfl | rfl | rfl | rfl | rfl | rfl | rfl | rfl | rfl | rfl | rfl | rfl | rfl | rfl | rfl | rfl <;> kernel_rfl

theorem isTab_below {B : Nat} {w w' : World} {a : Nat} (h : IsTab w a) (hb : Below B w w') (ha : a < B) : IsTab w' a := fun j hj => (hb.cell (p := ⟨a, j, none⟩) ha).trans (h j hj)

end Go.Proofs.Ytclhdgolcaacbaa.Crc
