/- Records in which some bits are turned: plain law. -/
import Derived.Test.YtclhdgolcaacbaaRecKilled
namespace Go.Proofs.Ytclhdgolcaacbaa
open Go.RowKit
set_option linter.unusedVariables false
set_option linter.unusedSimpArgs false

/-- the bytes l, k of them from p on turned by those of y -/
def turned (l : List UInt8) (p : Nat) (y : List UInt8) : Nat → List UInt8
  | 0 => l
  | k + 1 => (turned l p y k).set (p + k) ((turned l p y k).getD (p + k) 0 ^^^ y.getD k 0)

theorem turned_length (l : List UInt8) (p : Nat) (y : List UInt8) (k : Nat) : (turned l p y k).length = l.length := by
  induction k with
  | zero => rfl
  | succ k ih => simp only [turned, List.length_set, ih]

theorem turned_eq (l : List UInt8) (p : Nat) (y : List UInt8) (k : Nat) (h : p + k ≤ l.length) (hy : k ≤ y.length) :
    turned l p y k = l.take p ++ List.zipWith (· ^^^ ·) ((l.drop p).take k) (y.take k) ++ l.drop (p + k) := by
  induction k with
  | zero => simp [turned]
  | succ k ih =>
    have ih' := ih (by omega) (by omega)
    have e1 : (l.drop p).take (k + 1) = (l.drop p).take k ++ [l[p + k]] := by
      rw [List.take_succ_eq_append_getElem (by rw [List.length_drop]; omega)]; simp
    have e2 : y.take (k + 1) = y.take k ++ [y[k]] := List.take_succ_eq_append_getElem (by omega)
    have e3 : l.drop (p + k) = l[p + k] :: l.drop (p + k + 1) := List.drop_eq_getElem_cons (by omega)
    have hl : (l.take p ++ List.zipWith (· ^^^ ·) ((l.drop p).take k) (y.take k)).length = p + k := by
      simp; omega
    have hg : (turned l p y k).getD (p + k) 0 = l[p + k] := by
      rw [ih', e3, List.getD_eq_getElem?_getD, List.getElem?_append_right (by omega), hl, Nat.sub_self]; rfl
    simp only [turned]
    rw [hg, ih', e3]
    rw [List.set_append_right _ _ (by omega), hl]
    rw [e1, e2, List.zipWith_append (by simp; omega)]
    have hy2 : y.getD k 0 = y[k] := by rw [List.getD_eq_getElem?_getD, List.getElem?_eq_getElem (by omega)]; rfl
    rw [hy2]
    simp [List.append_assoc, Nat.add_assoc]

theorem zip_zero (m y : List UInt8) (h : m.length = y.length) : m = List.zipWith (· ^^^ ·) m y ↔ (y.all (· == 0)) = true := by
  induction m generalizing y with
  | nil => cases y with
    | nil => simp
    | cons a y => simp at h
  | cons a m ih =>
    cases y with
    | nil => simp at h
    | cons b y =>
      simp only [List.zipWith_cons_cons, List.cons.injEq, List.all_cons, Bool.and_eq_true, beq_iff_eq]
      rw [ih y (by simpa using h)]
      constructor
      · rintro ⟨h1, h2⟩
        refine ⟨?_, h2⟩
        have : a ^^^ a = a ^^^ (a ^^^ b) := by rw [← h1]
        rw [UInt8.xor_self, ← UInt8.xor_assoc, UInt8.xor_self, UInt8.zero_xor] at this
        exact this.symm
      · rintro ⟨rfl, h2⟩; exact ⟨by simp, h2⟩

theorem row4 (w : World) (a b c d : UInt8) (n : Nat) (hn : n = w.heap.size) : Row (w.alloc (.cells #[.int .u8 (a.toNat : Int), .int .u8 (b.toNat : Int), .int .u8 (c.toNat : Int), .int .u8 (d.toNat : Int)] 5)) n [a, b, c, d] := by
  subst hn
  intro j hj
  match j, hj with
  | 0, _ | 1, _ | 2, _ | 3, _ => simp


theorem word_low (x : Crc.W) : Crc.word (Crc.lowL x) = x := by
  unfold Crc.lowL
  simp only [Crc.word]
  apply BitVec.eq_of_getLsbD_eq
  intro i hi
  rcases (show i = 0 ∨ i = 1 ∨ i = 2 ∨ i = 3 ∨ i = 4 ∨ i = 5 ∨ i = 6 ∨ i = 7 ∨ i = 8 ∨ i = 9 ∨ i = 10 ∨ i = 11 ∨ i = 12 ∨ i = 13 ∨ i = 14 ∨ i = 15 ∨ i = 16 ∨ i = 17 ∨ i = 18 ∨ i = 19 ∨ i = 20 ∨ i = 21 ∨ i = 22 ∨ i = 23 ∨ i = 24 ∨ i = 25 ∨ i = 26 ∨ i = 27 ∨ i = 28 ∨ i = 29 ∨ i = 30 ∨ i = 31 from by omega) with rfl | rfl | rfl | rfl | rfl | rfl | rfl | rfl | rfl | rfl | rfl | rfl | rfl | rfl | rfl | rfl | rfl | rfl | rfl | rfl | rfl | rfl | rfl | rfl | rfl | rfl | rfl | rfl | rfl | rfl | rfl | rfl <;> simp

/-- the sum of bytes with their sum behind them -/
theorem residue (h : List UInt8) : Crc.run (BitVec.allOnes 32) (h ++ Crc.lowL (Crc.sum h)) = Crc.bsteps 32 (BitVec.allOnes 32) := by
  rw [Crc.run_append, Crc.run_word _ _ (by rw [low_length]; omega), low_length, word_low]
  unfold Crc.sum
  congr 1
  generalize Crc.run (BitVec.allOnes 32) h = c
  apply BitVec.eq_of_getLsbD_eq
  intro i hi
  rw [BitVec.getLsbD_xor, BitVec.getLsbD_not, BitVec.getLsbD_allOnes]
  simp [hi]

theorem take_three (A B C : List UInt8) (p : Nat) (hA : A.length = p) (hB : B.length = 4) (hp : p ≤ 20) : (A ++ B ++ C).take 22 = A ++ B.take (22 - p) ++ C.take (22 - p - 4) := by
  rw [List.append_assoc, List.take_append, List.take_append, hA, hB, List.take_of_length_le (by omega), List.append_assoc]

theorem turned_math (k : Int) (n d : Nat) (p : Nat) (hp : p ≤ 20) (y : List UInt8) (hy : y.length = 4) (t : ByteArray) (ht : t = ⟨(turned (encB k n d).data.toList p y 4).toArray⟩) (hE : decE t = 0) :
    y.all (· == 0) = true ∧ t = encB k n d := by
  have hl : (encB k n d).data.toList.length = 24 := by simpa using encB_size k n d
  have e1 : t.data.toList = (encB k n d).data.toList.take p ++ List.zipWith (· ^^^ ·) (((encB k n d).data.toList.drop p).take 4) (y.take 4) ++ (encB k n d).data.toList.drop (p + 4) := by
    rw [ht]; exact turned_eq _ _ _ _ (by omega) (by omega)
  rw [List.take_of_length_le (i := 4) (l := y) (by omega)] at e1
  have htl : t.data.toList.length = 24 := by rw [ht]; show (turned _ _ _ _).length = 24; rw [turned_length]; exact hl
  obtain ⟨_, f2, _⟩ := dec_facts t hE
  have f3 := enc_list k n d
  generalize hX : (encB k n d).data.toList = X at *
  generalize hT : t.data.toList = T at *
  have hmark : T.drop 22 = X.drop 22 := by
    have a1 : T.drop 22 = (T.drop 18).drop 4 := by rw [List.drop_drop]
    rw [a1, f2, List.drop_left' (low_length _), f3, List.drop_left' (by simp [head_length, low_length])]
  have r1 : Crc.run (BitVec.allOnes 32) (T.take 22) = Crc.bsteps 32 (BitVec.allOnes 32) := by
    have a1 : T.take 22 = T.take 18 ++ Crc.lowL (Crc.sum (T.take 18)) := by
      have := List.take_add (l := T) (i := 18) (j := 4)
      rw [this, f2, List.take_left' (low_length _)]
    rw [a1]; exact residue _
  have r2 : Crc.run (BitVec.allOnes 32) (X.take 22) = Crc.bsteps 32 (BitVec.allOnes 32) := by
    have a1 : X.take 22 = headL k n d ++ Crc.lowL (Crc.sum (headL k n d)) := by
      rw [f3, List.take_left' (by simp [head_length, low_length])]; rfl
    rw [a1]; exact residue _
  have hM : ((X.drop p).take 4).length = y.length := by simp; omega
  have hmm : X = X.take p ++ (X.drop p).take 4 ++ X.drop (p + 4) := by
    rw [← List.drop_drop, List.append_assoc, List.take_append_drop, List.take_append_drop]
  have t22 : T.take 22 = X.take p ++ (List.zipWith (· ^^^ ·) ((X.drop p).take 4) y).take (22 - p) ++ (X.drop (p + 4)).take (22 - p - 4) := by
    rw [e1]; exact take_three _ _ _ p (by simp; omega) (by rw [List.length_zipWith, hM, hy]; rfl) hp
  have x22 : X.take 22 = X.take p ++ ((X.drop p).take 4).take (22 - p) ++ (X.drop (p + 4)).take (22 - p - 4) := by
    conv => lhs; rw [hmm]
    exact take_three _ _ _ p (by simp; omega) (by rw [hM, hy]) hp
  have hs : Crc.sum (X.take p ++ ((X.drop p).take 4).take (22 - p) ++ (X.drop (p + 4)).take (22 - p - 4)) = Crc.sum (X.take p ++ (List.zipWith (· ^^^ ·) ((X.drop p).take 4) y).take (22 - p) ++ (X.drop (p + 4)).take (22 - p - 4)) := by
    rw [← t22, ← x22]; unfold Crc.sum; rw [r1, r2]
  have hmid := (Crc.sum_burst _ _ _ _ (by simp; omega) (by simp; omega)).1 hs
  have hall : T.take 22 = X.take 22 := by rw [t22, x22, hmid]
  have hTX : T = X := by rw [← List.take_append_drop 22 T, ← List.take_append_drop 22 X, hall, hmark]
  refine ⟨?_, bytes_list (by rw [hT, hX, hTX])⟩
  rw [← zip_zero _ _ hM]
  rw [hTX] at e1
  have e2 := hmm.symm.trans e1
  rw [List.append_assoc, List.append_assoc] at e2
  exact List.append_inj_left (List.append_cancel_left e2) (by simp; omega)
end Go.Proofs.Ytclhdgolcaacbaa
