/- flash.Read, Program, Erase, New over opaque functions of flashes. -/
import Derived.Test.YthagnnaemcknfaaFlash
namespace Go.Proofs.Ythagnnaemcknfaa
open Go.RowKit
set_option linter.unusedVariables false
set_option linter.unusedSimpArgs false

/-- a flash -/
structure Fl where
  a : ByteArray
  b : ByteArray
  x : Int
  y : Int
  l : Int
abbrev flV (f : Fl) : Value := .agg #[.string f.a, .string f.b, .int .i64 f.x, .int .i64 f.y, .int .i64 f.l]
/-- its numbers are integers, its banks are short -/
structure Fl.ok (f : Fl) : Prop where
  hx : (Lit.int .i64 f.x).wf = true
  hy : (Lit.int .i64 f.y).wf = true
  hl : (Lit.int .i64 f.l).wf = true
  ha : f.a.size ≤ 500
  hb : f.b.size ≤ 500

def Fl.bank (f : Fl) (k : Int) : ByteArray := if k = 0 then f.a else f.b
def Fl.worn (f : Fl) (k : Int) : Int := if k = 0 then f.x else f.y
def Fl.put (f : Fl) (k : Int) (s : ByteArray) : Fl := if k = 0 then { f with a := s } else { f with b := s }
def Fl.wear (f : Fl) (k : Int) (n : Int) : Fl := if k = 0 then { f with x := n } else { f with y := n }
def badAt (s : ByteArray) (t n : Int) : Prop := t < 0 ∨ n < 0 ∨ (s.size : Int) < t ∨ (s.size : Int) - t < n
instance (s : ByteArray) (t n : Int) : Decidable (badAt s t n) := by unfold badAt; infer_instance

/-- what is wrong about a place of a bank -/
def cutE (f : Fl) (k t n : Int) : Int := if k ≠ 0 ∧ k ≠ 1 then 1 else if badAt (f.bank k) t n then 2 else 0
def rdE (f : Fl) (k t n : Int) : Int := cutE f k t n
def rdS (f : Fl) (k t n : Int) : ByteArray := if cutE f k t n = 0 then (f.bank k).extract t.toNat (t.toNat + n.toNat) else ⟨#[]⟩
def pgE (f : Fl) (k t : Int) (d : ByteArray) : Int := if cutE f k t (d.size : Int) ≠ 0 then cutE f k t (d.size : Int) else if t % 2 ≠ 0 ∨ d.size % 2 ≠ 0 then 3 else 0
def pgF (f : Fl) (k t : Int) (d : ByteArray) : Fl := if pgE f k t d = 0 then f.put k (progB (f.bank k) t.toNat d) else f
def erE (f : Fl) (k : Int) : Int := if k ≠ 0 ∧ k ≠ 1 then 1 else if f.l ≤ f.worn k then 4 else 0
def erF (f : Fl) (k : Int) : Fl := if erE f k = 0 then (f.put k (fullB (f.bank k).size)).wear k (f.worn k + 1) else f
def newF (n l : Int) : Fl := if n < 0 ∨ 400 < n ∨ l < 0 ∨ 1000 < l then ⟨⟨#[]⟩, ⟨#[]⟩, 0, 0, 0⟩ else ⟨fullB n.toNat, fullB n.toNat, 0, 0, l⟩

theorem cutE_1 {f : Fl} {k t n : Int} (h0 : k ≠ 0) (h1 : k ≠ 1) : cutE f k t n = 1 := if_pos ⟨h0, h1⟩
theorem cutE_2 {f : Fl} {k t n : Int} (h : k = 0 ∨ k = 1) (hb : badAt (f.bank k) t n) : cutE f k t n = 2 := by
  unfold cutE; rw [if_neg (by omega), if_pos hb]
theorem cutE_0 {f : Fl} {k t n : Int} (h : k = 0 ∨ k = 1) (hb : ¬ badAt (f.bank k) t n) : cutE f k t n = 0 := by
  unfold cutE; rw [if_neg (by omega), if_neg hb]
theorem cutE_of {f : Fl} {k t n : Int} (h : cutE f k t n = 0) : (k = 0 ∨ k = 1) ∧ 0 ≤ t ∧ 0 ≤ n ∧ t + n ≤ ((f.bank k).size : Int) := by
  unfold cutE at h
  split at h
  · cases h
  · split at h
    · cases h
    · rename_i h1 h2
      unfold badAt at h2
      omega
theorem bank_is (f : Fl) (k : Int) (h : k = 0 ∨ k = 1) : (k = 0 ∧ f.bank k = f.a) ∨ (k = 1 ∧ f.bank k = f.b) := by
  rcases h with rfl | rfl
  · exact .inl ⟨rfl, rfl⟩
  · exact .inr ⟨rfl, rfl⟩
theorem Fl.ok.bank {f : Fl} (h : f.ok) (k : Int) : (f.bank k).size ≤ 500 := by
  unfold Fl.bank; split
  · exact h.ha
  · exact h.hb

theorem or_par (t n : Nat) (ht : t ≤ 1000) (hn : n ≤ 1000) : (bits .and .i64 (bits .or .i64 (t : Int) (n : Int)) 1 != 0) = decide (t % 2 ≠ 0 ∨ n % 2 ≠ 0) := by
  have hw : ∀ m : Nat, m < 1024 → IntKind.i64.wrap (m : Int) = (m : Int) := fun m hm => IntWalk.i64_in _ (by omega)
  have hor : t ||| n < 1024 := Nat.or_lt_two_pow (n := 10) (by omega) (by omega)
  have e1 : bits .or .i64 (t : Int) (n : Int) = ((t ||| n : Nat) : Int) := by
    show IntKind.i64.wrap ((BitVec.ofInt 64 (t : Int) ||| BitVec.ofInt 64 (n : Int)).toNat : Int) = _
    rw [BitVec.toNat_or, BitVec.toNat_ofInt, BitVec.toNat_ofInt]
    rw [show ((t : Int) % ((2 ^ 64 : Nat) : Int)).toNat = t by omega, show ((n : Int) % ((2 ^ 64 : Nat) : Int)).toNat = n by omega]
    exact hw _ hor
  have e2 : bits .and .i64 ((t ||| n : Nat) : Int) 1 = (((t ||| n) % 2 : Nat) : Int) := by
    show IntKind.i64.wrap ((BitVec.ofInt 64 ((t ||| n : Nat) : Int) &&& BitVec.ofInt 64 1).toNat : Int) = _
    rw [BitVec.toNat_and, BitVec.toNat_ofInt]
    rw [show (((t ||| n : Nat) : Int) % ((2 ^ 64 : Nat) : Int)).toNat = t ||| n by omega, show (BitVec.ofInt 64 1).toNat = 1 from rfl, Nat.and_one_is_mod]
    exact hw _ (by omega)
  rw [e1, e2]
  have e3 : (t ||| n) % 2 = t % 2 ||| n % 2 := by have := Nat.or_mod_two_pow (a := t) (b := n) (n := 1); simpa using this
  rw [e3]
  rcases Nat.mod_two_eq_zero_or_one t with h | h <;> rcases Nat.mod_two_eq_zero_or_one n with h2 | h2 <;> rw [h, h2] <;> decide

theorem pgE_cut {f : Fl} {k t : Int} {d : ByteArray} {E : Int} (h : cutE f k t (d.size : Int) = E) (hE : E ≠ 0) : pgE f k t d = E := by
  unfold pgE; rw [h, if_pos hE]
theorem pgF_bad {f : Fl} {k t : Int} {d : ByteArray} (h : pgE f k t d ≠ 0) : pgF f k t d = f := if_neg h
theorem rdS_bad {f : Fl} {k t n : Int} (h : cutE f k t n ≠ 0) : rdS f k t n = ⟨#[]⟩ := if_neg h


theorem Program_any (f : Fl) (hf : f.ok) (k t : Int) (d : ByteArray) (hk : (Lit.int .i64 k).wf = true) (ht : (Lit.int .i64 t).wf = true) (hd : d.size ≤ maxLen) (w : World) :
    Calls Try.prog 17 #[flV f, .int .i64 k, .int .i64 t, .string d] w fun e w' =>
      e = .returned (.tuple #[flV (pgF f k t d), .int .i64 (pgE f k t d)]) ∧ Below w.heap.size w w' := by
  have hs := hf.bank k
  have hn : (Lit.int .i64 (d.size : Int)).wf = true := by unfold maxLen at hd; simp [Lit.wf, IntKind.min, IntKind.max, IntKind.signed, IntKind.bits]; omega
  by_cases h : k = 0 ∨ k = 1
  · by_cases hb : badAt (f.bank k) t (d.size : Int)
    · have hE := pgE_cut (cutE_2 h hb) (by omega)
      rw [hE, pgF_bad (by omega)]
      exact Program_bad f.a f.b d f.x f.y f.l k t 2 w fun W => cut_bounds f.a f.b f.x f.y f.l t _ k (f.bank k) (bank_is f k h) hb hn ht (by omega) W
    · have hE := cutE_0 h hb
      obtain ⟨_, h2, h3, h4⟩ := cutE_of hE
      obtain ⟨t, rfl⟩ := Int.eq_ofNat_of_zero_le h2
      have hp := or_par t d.size (by omega) (by omega)
      by_cases hpar : t % 2 ≠ 0 ∨ d.size % 2 ≠ 0
      · rw [decide_eq_true hpar] at hp
        have hE3 : pgE f k t d = 3 := by unfold pgE; rw [if_neg (by omega), if_pos (by omega)]
        rw [hE3, pgF_bad (by omega)]
        exact Program_align f.a f.b d f.x f.y f.l t k (f.bank k) (bank_is f k h) (by omega) (by omega) hp w
      · rw [decide_eq_false hpar] at hp
        have hE0 : pgE f k t d = 0 := by unfold pgE; rw [if_neg (by omega), if_neg (by omega)]
        have hF : pgF f k t d = f.put k (progB (f.bank k) t d) := if_pos hE0
        rw [hE0, hF]
        rcases h with rfl | rfl
        · exact Program_ok f.a f.b d f.x f.y f.l t 0 f.a _ _ _ (.inl ⟨rfl, rfl, rfl, rfl⟩) rfl (by simp [Fl.bank] at h4; omega) (by have := hf.ha; omega) hp w
        · exact Program_ok f.a f.b d f.x f.y f.l t 1 f.b _ _ _ (.inr ⟨rfl, rfl, rfl, rfl⟩) rfl (by simp [Fl.bank] at h4; omega) (by have := hf.hb; omega) hp w
  · have hE := pgE_cut (cutE_1 (f := f) (t := t) (n := (d.size : Int)) (k := k) (by omega) (by omega)) (by omega)
    rw [hE, pgF_bad (by omega)]
    exact Program_bad f.a f.b d f.x f.y f.l k t 1 w fun W => cut_arg f.a f.b f.x f.y f.l k t _ hk (by omega) (by omega) W

theorem Erase_any (f : Fl) (hf : f.ok) (k : Int) (hk : (Lit.int .i64 k).wf = true) (w : World) :
    Calls Try.prog 18 #[flV f, .int .i64 k] w fun e w' =>
      e = .returned (.tuple #[flV (erF f k), .int .i64 (erE f k)]) ∧ Below w.heap.size w w' := by
  have ha := hf.ha
  have hb := hf.hb
  by_cases h : k = 0 ∨ k = 1
  · by_cases hw : f.l ≤ f.worn k
    · have hE : erE f k = 4 := by unfold erE; rw [if_neg (by omega), if_pos hw]
      have hF : erF f k = f := if_neg (by omega)
      rw [hE, hF]
      rcases h with rfl | rfl
      · exact Erase_worn f.a f.b f.x f.y f.l 0 f.a (.inl ⟨rfl, rfl, hw⟩) (by omega) w
      · exact Erase_worn f.a f.b f.x f.y f.l 1 f.b (.inr ⟨rfl, rfl, hw⟩) (by omega) w
    · have hE : erE f k = 0 := by unfold erE; rw [if_neg (by omega), if_neg hw]
      have hF : erF f k = (f.put k (fullB (f.bank k).size)).wear k (f.worn k + 1) := if_pos hE
      rw [hE, hF]
      rcases h with rfl | rfl
      · exact Erase_ok f.a f.b f.x f.y f.l 0 f.a _ _ _ _ (.inl ⟨rfl, rfl, rfl, rfl, rfl, rfl, by simpa [Fl.worn] using hw⟩) hf.hx hf.hy hf.hl (by omega) w
      · exact Erase_ok f.a f.b f.x f.y f.l 1 f.b _ _ _ _ (.inr ⟨rfl, rfl, rfl, rfl, rfl, rfl, by simpa [Fl.worn] using hw⟩) hf.hx hf.hy hf.hl (by omega) w
  · have hE : erE f k = 1 := by unfold erE; rw [if_pos (by omega)]
    have hF : erF f k = f := if_neg (by omega)
    rw [hE, hF]
    exact Erase_arg f.a f.b f.x f.y f.l k hk (by omega) (by omega) w
end Go.Proofs.Ythagnnaemcknfaa
