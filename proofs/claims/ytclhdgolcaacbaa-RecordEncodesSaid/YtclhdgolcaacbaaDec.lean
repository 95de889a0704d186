/- record.Decode, Good: what they answer. -/
import Derived.Test.YtclhdgolcaacbaaRec
import Derived.Deep.RegionWith
namespace Go.Proofs.Ytclhdgolcaacbaa
open Go.RowKit
set_option linter.unusedVariables false
set_option linter.unusedSimpArgs false

theorem ext_size (s : ByteArray) (p q : Nat) (h : p ≤ q) (h2 : q ≤ s.size) : (s.extract p q).size = q - p := by
  rw [ByteArray.size_extract]; omega
theorem ext_of_ext (s : ByteArray) (p a b : Nat) : (s.extract p s.size).extract a b = s.extract (p + a) (min (p + b) s.size) := by
  rw [ByteArray.extract_extract]

set_option maxHeartbeats 1000000 in
theorem take_any (s : ByteArray) (p n B : Nat) (h : p + n ≤ s.size) (hs : s.size ≤ 1000) (w : World) (hc : w.cell? ⟨B, 0, none⟩ = some (.string (s.extract p s.size))) (hf : w.frozen? ⟨B, 0, none⟩ = false) :
    Calls Try.prog 29 #[.pointer (some ⟨B, 0, none⟩), .int .i64 (n : Int)] w fun e w' =>
      e = .returned (.string (s.extract p (p + n))) ∧ w' = (w.setCell ⟨B, 0, none⟩ (.string (s.extract (p + n) s.size))).drew := by
  have hz := ext_size s p s.size (by omega) (Nat.le_refl _)
  have e1 : (s.extract p s.size).extract 0 n = s.extract p (p + n) := by rw [ext_of_ext, Nat.add_zero, Nat.min_eq_left h]
  have e2 : (s.extract p s.size).extract n (s.extract p s.size).size = s.extract (p + n) s.size := by rw [ext_of_ext, hz, show p + (s.size - p) = s.size by omega, Nat.min_self]
  obtain ⟨t, ht⟩ : ∃ t, t = s.extract p s.size := ⟨_, rfl⟩
  rw [← ht] at hz e1 e2 hc
  have hn : n ≤ t.size := by omega
  have ht1 : t.size ≤ 1000 := by omega
  obtain ⟨x, hx⟩ : ∃ x, x = s.extract p (p + n) := ⟨_, rfl⟩
  obtain ⟨y, hy⟩ : ∃ y, y = s.extract (p + n) s.size := ⟨_, rfl⟩
  rw [← hx] at e1
  rw [← hy] at e2
  rw [← hx, ← hy]
  clear hx hy hz ht h hs
  go_enter Try.func29, Try.ntmps29
  go_wp2
  go_region
  all_goals
    go_wp2
    go_ret
    exact ⟨rfl, rfl⟩

/-- one take, with its number as the code has it; x: what it answers, y: what is left -/
theorem take_lit (s : ByteArray) (p n B : Nat) (N : Int) (hN : N = (n : Int)) (x : ByteArray) (q : Nat) (hq : q = p + n) (hx : s.extract p q = x) (h : q ≤ s.size) (hs : s.size ≤ 1000) (w : World)
    (hc : Blk w B 51 #[.string (s.extract p s.size)]) :
    Calls Try.prog 29 #[.pointer (some ⟨B, 0, none⟩), .int .i64 N] w fun e w' =>
      e = .returned (.string x) ∧ (Blk w' B 51 #[.string (s.extract q s.size)] ∧ Below B w w' ∧ ∀ j t cs, j ≠ B → Blk w j t cs → Blk w' j t cs) := by
  subst hN hq hx
  refine (take_any s p n B h hs w (hc.cell 0) (hc.frozen 0)).mono ?_
  rintro e w' ⟨rfl, rfl⟩
  exact ⟨rfl, hc.set 0 _, ((Below.refl _ w).setCell (by simp) _).drew, fun j t cs hj h => (h.other _ (by exact hj) _).drew⟩

def byteAt (s : ByteArray) (j : Nat) : UInt8 := s.data.toList.getD j 0
theorem ext_one (s : ByteArray) (p : Nat) (h : p < s.size) : s.extract p (p + 1) = ⟨#[byteAt s p]⟩ := by
  apply ByteArray.ext
  rw [ByteArray.data_extract]
  apply Array.ext
  · simp; have : s.size = s.data.size := rfl; omega
  · intro i h1 h2
    have : s.size = s.data.size := rfl
    simp at h2
    subst h2
    simp [byteAt]
    rw [Array.getElem?_eq_getElem (by omega)]
    rfl
theorem get4 (y : ByteArray) (h : y.size = 4) : ∃ c : Crc.W, getN y = c.toNat := by
  have := getL_lt y.data.toList
  have hl : y.data.toList.length = 4 := by simpa using h
  rw [hl] at this
  exact ⟨BitVec.ofNat 32 (getN y), by rw [BitVec.toNat_ofNat, Nat.mod_eq_of_lt (by exact this)]⟩
theorem get8 (y : ByteArray) (h : y.size = 8) : getN y < 18446744073709551616 := by
  have := getL_lt y.data.toList
  have hl : y.data.toList.length = 8 := by simpa using h
  rw [hl] at this
  exact this

theorem dec_result (tmps : Array Value) (F : World) (B : Nat) (k : Int) (n d : Int) (E : Int) (h2 : tmps.getD 2 undef = .pointer (some ⟨B, 0, none⟩)) (h3 : tmps.getD 3 undef = .int .i64 E)
    (hF : Blk F B 24 #[.int .i64 k, .int .u64 n, .int .u64 d]) :
    (results Try.f17 tmps).run Try.prog F = .ok (.tuple #[.agg #[.int .i64 k, .int .u64 n, .int .u64 d], .int .i64 E]) F := by
  have r0 := hF.cell 0
  have r1 := hF.cell 1
  have r2 := hF.cell 2
  rw [Array.getD_eq_getD_getElem?] at h2 h3
  simp [results, Try.f17, go_sem, h2, h3, r0, r1, r2]

/-- what Decode answers: kind, number, data, error -/
def dec (s : ByteArray) : Nat × Nat × Nat × Int :=
  if s.size ≠ 24 then (0, 0, 0, 1) else if blankS s = true then (0, 0, 0, 5) else if byteAt s 0 ≠ 165 then (0, 0, 0, 6)
  else if Crc.rev32 (BitVec.ofNat 32 (getN (s.extract 18 22))) ≠ Crc.rangeW s 0 18 then (0, 0, 0, 7)
  else if (byteAt s 1).toNat < 1 ∨ 3 < (byteAt s 1).toNat then (0, 0, 0, 8)
  else if s.extract 22 24 ≠ ⟨#[90, 60]⟩ then (0, 0, 0, 9) else ((byteAt s 1).toNat, getN (s.extract 2 10), getN (s.extract 10 18), 0)
def decK (s : ByteArray) : Nat := (dec s).1
def decN (s : ByteArray) : Nat := (dec s).2.1
def decD (s : ByteArray) : Nat := (dec s).2.2.1
def decE (s : ByteArray) : Int := (dec s).2.2.2
abbrev decV (s : ByteArray) : Value := .tuple #[recV (decK s : Int) (decN s) (decD s), .int .i64 (decE s)]

theorem dec_sets {W : World} {B : Nat} {a b c : Value} (hR : Blk W B 24 #[a, b, c]) (x y z : Value) :
    Blk (((W.setCell ⟨B, 0, none⟩ x).setCell ⟨B, 1, none⟩ y).setCell ⟨B, 2, none⟩ z) B 24 #[x, y, z] := by
  simpa using ((hR.set 0 x).set 1 y).set 2 z
theorem dec_bel {w W : World} {B : Nat} (h : Below B w W) (x y z : Value) : Below B w (((W.setCell ⟨B, 0, none⟩ x).setCell ⟨B, 1, none⟩ y).setCell ⟨B, 2, none⟩ z) :=
  ((h.setCell (p := ⟨B, 0, none⟩) (Nat.le_refl _) x).setCell (p := ⟨B, 1, none⟩) (Nat.le_refl _) y).setCell (p := ⟨B, 2, none⟩) (Nat.le_refl _) z

theorem dec_end (s : ByteArray) (w F : World) (a : Act) (k n d : Nat) (E : Int) (ha : a.defers = []) (h2 : a.tmps.getD 2 undef = .pointer (some ⟨w.heap.size, 0, none⟩)) (h3 : a.tmps.getD 3 undef = .int .i64 E)
    (hF : Blk F w.heap.size 24 #[.int .i64 (k : Int), .int .u64 (n : Int), .int .u64 (d : Int)]) (hb : Below w.heap.size w F) (hd : dec s = (k, n, d, E)) :
    bodyPost Try.prog Try.f17 (fun e w' => e = .returned (decV s) ∧ Below w.heap.size w w') Exit.ret a F := by
  refine ⟨ha, _, dec_result _ F w.heap.size _ _ _ E h2 h3 hF, ?_, hb⟩
  unfold decV decK decN decD decE
  rw [hd]

set_option maxHeartbeats 4000000 in
theorem Decode_magic (s : ByteArray) (hs : s.size = 24) (hbl : blankS s = false) (hmg : byteAt s 0 ≠ 165) (w : World) :
    Calls Try.prog 17 #[.string s] w fun e w' => e = .returned (decV s) ∧ Below w.heap.size w w' := by
  have hd : dec s = (0, 0, 0, 6) := by unfold dec; rw [if_neg (by simp [hs]), if_neg (by simp [hbl]), if_pos hmg]
  have hm : s.size ≤ 1000 := by omega
  have hmx : s.size ≤ maxLen := by unfold maxLen; omega
  have e0 : s.extract 0 s.size = s := by simp
  have x0 := ext_one s 0 (by omega)
  have x1 := ext_one s 1 (by omega)
  obtain ⟨X2, x2⟩ : ∃ X, s.extract 2 10 = X := ⟨_, rfl⟩
  obtain ⟨X3, x3⟩ : ∃ X, s.extract 10 18 = X := ⟨_, rfl⟩
  obtain ⟨X4, x4⟩ : ∃ X, s.extract 18 22 = X := ⟨_, rfl⟩
  have z2 : X2.size ≤ 8 := by rw [← x2, ext_size s 2 10 (by omega) (by omega)]; omega
  have z3 : X3.size ≤ 8 := by rw [← x3, ext_size s 10 18 (by omega) (by omega)]; omega
  have z4 : X4.size ≤ 8 := by rw [← x4, ext_size s 18 22 (by omega) (by omega)]; omega
  obtain ⟨c, hc⟩ := get4 X4 (by rw [← x4, ext_size s 18 22 (by omega) (by omega)])
  have hG4 : ∀ W, Calls Try.prog 30 #[.string X4] W fun e w' => e = .returned (.int .u64 (c.toNat : Int)) ∧ W = w' := fun W => by rw [← hc]; exact Get_any X4 z4 W
  have hcl := c.isLt
  clear hc z4
  obtain ⟨a0, ha0⟩ : ∃ a0, byteAt s 0 = a0 := ⟨_, rfl⟩
  obtain ⟨a1, ha1⟩ : ∃ a1, byteAt s 1 = a1 := ⟨_, rfl⟩
  rw [ha0] at x0
  rw [ha1] at x1
  have hne : (((a0.toNat : Nat) : Int) != 165) = true := by
    rw [ha0] at hmg; simp; intro h; exact hmg (UInt8.toNat_inj.1 (by show a0.toNat = 165; omega))
  go_enter Try.func17, Try.ntmps17
  go_wp2_with (first | (with_reducible refine (Blank_any _ _).mono ?_; rintro e w1 ⟨rfl, rfl⟩))
  have kR := (Blk.new w 24 #[.int .i64 0, .int .u64 0, .int .u64 0]).alloc (.cells #[.string s] 51)
  have kT : Blk ((w.alloc (.cells #[.int .i64 0, .int .u64 0, .int .u64 0] 24)).alloc (.cells #[.string s] 51)) (w.heap.size + 1) 51 #[.string (s.extract 0 s.size)] := by
    rw [e0]; have h := Blk.new (w.alloc (.cells #[.int .i64 0, .int .u64 0, .int .u64 0] 24)) 51 #[.string s]
    rwa [World.size_alloc] at h
  have B1 : Below w.heap.size w ((w.alloc (.cells #[.int .i64 0, .int .u64 0, .int .u64 0] 24)).alloc (.cells #[.string s] 51)) := ((Below.refl _ w).alloc (Nat.le_refl _) _).alloc (by simp) _
  generalize ((w.alloc (.cells #[.int .i64 0, .int .u64 0, .int .u64 0] 24)).alloc (.cells #[.string s] 51)) = W0 at *
  have kT' := kT.drew
  have h256 : a1.toNat < 256 := a1.toNat_lt
  have hi0 : ((⟨#[a0]⟩ : ByteArray)[0]'(Nat.zero_lt_one)) = a0 := rfl
  have hi1 : ((⟨#[a1]⟩ : ByteArray)[0]'(Nat.zero_lt_one)) = a1 := rfl
  go_region_with (first | (with_reducible refine (take_lit s 0 1 (w.heap.size + 1) 1 rfl _ 1 rfl x0 (by omega) hm _ kT').mono ?_; rintro e w1 ⟨rfl, t1, b1, n1⟩) | (with_reducible refine (take_lit s 1 1 (w.heap.size + 1) 1 rfl _ 2 rfl x1 (by omega) hm _ t1).mono ?_; rintro e w2 ⟨rfl, t2, b2, n2⟩))
  all_goals
    go_wp2_with (first | (with_reducible refine (take_lit s 2 8 (w.heap.size + 1) 8 rfl _ 10 rfl x2 (by omega) hm _ t2).mono ?_; rintro e w3 ⟨rfl, t3, b3, n3⟩) | (with_reducible refine (Get_any X2 z2 _).mono ?_; rintro e w4 ⟨rfl, rfl⟩) | (with_reducible refine (take_lit s 10 8 (w.heap.size + 1) 8 rfl _ 18 rfl x3 (by omega) hm _ t3).mono ?_; rintro e w5 ⟨rfl, t4, b5, n5⟩) | (with_reducible refine (Get_any X3 z3 _).mono ?_; rintro e w6 ⟨rfl, rfl⟩) | (with_reducible refine (take_lit s 18 4 (w.heap.size + 1) 4 rfl _ 22 rfl x4 (by omega) hm _ (t4.alloc _)).mono ?_; rintro e w7 ⟨rfl, t5, b7, n7⟩) | (with_reducible refine (hG4 _).mono ?_; rintro e w8 ⟨rfl, rfl⟩))
    refine (Crc.Rev_any c _).mono ?_
    rintro e w9 ⟨rfl, rfl⟩
    have hB : ∀ {A C : World}, Below (w.heap.size + 1) A C → Below w.heap.size A C := fun h => h.mono (Nat.le_succ _)
    have kR1 := (kR.drew.below b1 (Nat.lt_succ_self _)).below b2 (Nat.lt_succ_self _)
    have kR5 := ((kR1.below b3 (Nat.lt_succ_self _)).below b5 (Nat.lt_succ_self _)).alloc (.cells #[.int .i64 (a1.toNat : Int), .int .u64 (getN X2 : Int), .int .u64 (getN X3 : Int)] 24)
    have kR7 := kR5.below b7 (Nat.lt_succ_self _)
    have hlt := t4.lt
    have kX := Blk.new w5 24 #[.int .i64 (a1.toNat : Int), .int .u64 (getN X2 : Int), .int .u64 (getN X3 : Int)]
    have kX7 := n7 _ _ _ (by omega) kX
    have hx5 : w.heap.size ≠ w5.heap.size := by omega
    have B7 : Below w.heap.size w w7 := ((B1.drew.trans (hB b1)).trans ((hB b2).trans ((hB b3).trans (hB b5)))).trans (((Below.refl _ w5).alloc (by omega) (.cells #[.int .i64 (a1.toNat : Int), .int .u64 (getN X2 : Int), .int .u64 (getN X3 : Int)] 24)).trans (hB b7))
    generalize w5.heap.size = A5 at *
    have t5c := t5.cell 0
    clear n1 n2 n3 n5 n7 t1 t2 t3 t4 b1 b2 b3 b5 b7 kR1 kR5 kX kT kT' kR B1 hB
    have r0 := kR7.cell 0
    have r1 := kR7.cell 1
    have r2 := kR7.cell 2
    have f0 := kR7.frozen 0
    have f1 := kR7.frozen 1
    have f2 := kR7.frozen 2
    go_wp2
    exact dec_end s w _ _ 0 0 0 6 rfl rfl rfl (dec_sets kR7 _ _ _) (dec_bel B7 _ _ _) hd
end Go.Proofs.Ytclhdgolcaacbaa
