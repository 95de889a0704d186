/- flash.cut: what it answers, and what it throws. -/
import Derived.Test.YthagnnaemcknfaaCaught
namespace Go.Proofs.Ythagnnaemcknfaa
open Go.RowKit
set_option linter.unusedVariables false
set_option linter.unusedSimpArgs false

/-- a flash, as a value; and its cells -/
abbrev flashC (a b : ByteArray) (x y l : Int) : Array Value := #[.string a, .string b, .int .i64 x, .int .i64 y, .int .i64 l]
abbrev flashV (a b : ByteArray) (x y l : Int) : Value := .agg #[.string a, .string b, .int .i64 x, .int .i64 y, .int .i64 l]

theorem bv_one (x : BitVec 64) (h : x &&& ~~~1#64 = 0#64) : x.toNat < 2 := by
  have e : x = x &&& 1#64 := by
    apply BitVec.eq_of_getLsbD_eq
    intro i hi
    have := congrArg (fun y => y.getLsbD i) h
    have h1 : (1#64).getLsbD i = decide (i = 0) := by simp [BitVec.getLsbD_one]
    rw [BitVec.getLsbD_and, BitVec.getLsbD_not, h1] at this
    rw [BitVec.getLsbD_and, h1]
    by_cases e : i = 0 <;> simp [e, hi] at this ⊢
    exact this
  rw [e, BitVec.toNat_and]
  show x.toNat &&& 1 < 2
  rw [Nat.and_one_is_mod]; omega

theorem bank_bad (b : Int) (hb : (Lit.int .i64 b).wf = true) (h0 : b ≠ 0) (h1 : b ≠ 1) : (bits .andNot .i64 b 1 != 0) = true := by
  rw [bne_iff_ne]
  intro h
  simp [Lit.wf, IntKind.min, IntKind.max, IntKind.signed, IntKind.bits] at hb
  have e : bits .andNot .i64 b 1 = IntKind.i64.wrap ((BitVec.ofInt 64 b &&& ~~~ BitVec.ofInt 64 1).toNat : Int) := rfl
  rw [e] at h
  have hz : (BitVec.ofInt 64 b &&& ~~~ 1#64) = 0#64 := by
    apply BitVec.eq_of_toNat_eq
    have := (BitVec.ofInt 64 b &&& ~~~ 1#64).isLt
    rw [IntKind.wrap_i64] at h
    show (BitVec.ofInt 64 b &&& ~~~ 1#64).toNat = 0
    have e2 : (BitVec.ofInt 64 b &&& ~~~ BitVec.ofInt 64 1) = (BitVec.ofInt 64 b &&& ~~~ 1#64) := rfl
    rw [e2] at h
    omega
  have h2 := bv_one _ hz
  rw [BitVec.toNat_ofInt] at h2
  omega

theorem cut_arg (a b : ByteArray) (x y l k t n : Int) (hk : (Lit.int .i64 k).wf = true) (h0 : k ≠ 0) (h1 : k ≠ 1) (w : World) :
    Calls Try.prog 22 #[flashV a b x y l, .int .i64 k, .int .i64 t, .int .i64 n] w fun e w' =>
      e = .panicked [{ v := .iface 31 (.int .i64 1), recovered := false }] ∧ Below w.heap.size w w' := by
  have hb := bank_bad k hk h0 h1
  go_enter Try.func22, Try.ntmps22
  go_wp2
  exact ⟨rfl, rfl, (Below.refl _ w).alloc (Nat.le_refl _) _⟩

theorem cut_bounds (a b : ByteArray) (x y l t n k : Int) (s : ByteArray) (hk : (k = 0 ∧ s = a) ∨ (k = 1 ∧ s = b)) (h : t < 0 ∨ n < 0 ∨ (s.size : Int) < t ∨ (s.size : Int) - t < n)
    (hn : (Lit.int .i64 n).wf = true) (ht : (Lit.int .i64 t).wf = true) (hs : s.size ≤ 1000) (w : World) :
    Calls Try.prog 22 #[flashV a b x y l, .int .i64 k, .int .i64 t, .int .i64 n] w fun e w' =>
      e = .panicked [{ v := .iface 31 (.int .i64 2), recovered := false }] ∧ Below w.heap.size w w' := by
  simp [Lit.wf, IntKind.min, IntKind.max, IntKind.signed, IntKind.bits] at hn ht
  have hcase : t < 0 ∨ (0 ≤ t ∧ n < 0) ∨ (0 ≤ t ∧ 0 ≤ n ∧ (s.size : Int) < t) ∨ (0 ≤ t ∧ 0 ≤ n ∧ t ≤ (s.size : Int) ∧ (s.size : Int) - t < n) := by omega
  clear h
  rcases hk with ⟨rfl, rfl⟩ | ⟨rfl, rfl⟩
  all_goals
    rcases hcase with h1 | ⟨h1, h2⟩ | ⟨h1, h2, h3⟩ | ⟨h1, h2, h3, h4⟩
    all_goals
      go_enter Try.func22, Try.ntmps22
      go_wp2
      exact ⟨rfl, rfl, (Below.refl _ w).alloc (Nat.le_refl _) _⟩

theorem cut_ok (a b : ByteArray) (x y l : Int) (t n : Nat) (k : Int) (s : ByteArray) (hk : (k = 0 ∧ s = a) ∨ (k = 1 ∧ s = b)) (h : t + n ≤ s.size) (hs : s.size ≤ 1000) (w : World) :
    Calls Try.prog 22 #[flashV a b x y l, .int .i64 k, .int .i64 (t : Int), .int .i64 (n : Int)] w fun e w' =>
      e = .returned (.tuple #[.string (s.extract 0 t), .string (s.extract t (t + n)), .string (s.extract (t + n) s.size)]) ∧ Below w.heap.size w w' := by
  have h1 : t ≤ s.size := by omega
  have h2 : n ≤ s.size - t := by omega
  rcases hk with ⟨rfl, rfl⟩ | ⟨rfl, rfl⟩
  all_goals
    go_enter Try.func22, Try.ntmps22
    go_wp2
    have h3 : (0 : Int) ≤ (t : Int) := by omega
    have h4 : (t : Int) ≤ (s.size : Int) := by omega
    have h5 : (t : Int) + (n : Int) ≤ (s.size : Int) := by omega
    have h6 : IntKind.i64.wrap ((t : Int) + (n : Int)) = (t : Int) + (n : Int) := IntWalk.i64_in _ (by omega)
    have h7 : ((t : Int) + (n : Int)).toNat = t + n := by omega
    have h8 : (0 : Int) ≤ (t : Int) + (n : Int) := by omega
    have h9 : (t : Int) ≤ (t : Int) + (n : Int) := by omega
    go_quiet (fail)
    go_wp2
    go_ret3
    exact ⟨rfl, bdrew ((Below.refl _ w).alloc (Nat.le_refl _) _) _⟩
end Go.Proofs.Ythagnnaemcknfaa
