/- clear.And, clear.Torn: contracts over opaque functions of texts, and the plain laws of these functions. -/
import Derived.Test.YthagnnaemcknfaaClearAnd
import Derived.Test.YthagnnaemcknfaaFull
namespace Go.Proofs.Ythagnnaemcknfaa
open Go.RowKit Go.Shelf
attribute [local go_sem] Oper.semAt_some
set_option linter.unusedVariables false
set_option linter.unusedSimpArgs false

theorem outL_get {n : Nat} (g : Fin n → UInt8) (k : Nat) (hk : k ≤ n) (i : Nat) (hi : i < n) : (outL g (ups n k))[i]? = some (if i < k then g ⟨i, hi⟩ else 0) := by
  induction k with
  | zero => simp [ups, outL, hi]
  | succ k ih =>
    rw [ups_succ n k hk, outL_snoc]
    by_cases e : k = i
    · subst e
      rw [List.getElem?_set_self (by rw [outL_length]; exact hi)]
      simp
    · rw [List.getElem?_set_ne (by exact e), ih (by omega)]
      congr 1
      by_cases h : i < k
      · simp [h, show i < k + 1 by omega]
      · simp [h, show ¬ i < k + 1 by omega]

def andB (old a : ByteArray) : ByteArray := ⟨(outL (andF old a) (ups old.size old.size)).toArray⟩
def tornB (old a b : ByteArray) : ByteArray := ⟨(outL (tornF old a b) (ups old.size old.size)).toArray⟩

theorem out_size {n : Nat} (g : Fin n → UInt8) : (⟨(outL g (ups n n)).toArray⟩ : ByteArray).size = n := by
  show (outL g (ups n n)).toArray.size = n
  rw [List.size_toArray, outL_length]
theorem out_byte {n : Nat} (g : Fin n → UInt8) (d : UInt8) (j : Nat) (h : j < n) : byteOr ⟨(outL g (ups n n)).toArray⟩ d j = g ⟨j, h⟩ := by
  unfold byteOr
  simp only [List.getD_eq_getElem?_getD]
  rw [outL_get g n (Nat.le_refl _) j h, if_pos h]
  rfl
theorem andB_size (old a : ByteArray) : (andB old a).size = old.size := out_size _
theorem tornB_size (old a b : ByteArray) : (tornB old a b).size = old.size := out_size _
theorem andB_byte (old a : ByteArray) (d : UInt8) (j : Nat) (h : j < old.size) : byteOr (andB old a) d j = (byteOr old 0 j &&& byteOr a 255 j) := out_byte _ d j h
theorem tornB_byte (old a b : ByteArray) (d : UInt8) (j : Nat) (h : j < old.size) : byteOr (tornB old a b) d j = (byteOr old 0 j &&& ~~~(byteOr old 0 j &&& ~~~(byteOr a 255 j) &&& byteOr b 0 j)) := out_byte _ d j h

/-- two texts are one if they have the same bytes -/
theorem bytes_eq {s t : ByteArray} (h : s.size = t.size) (hb : ∀ j, j < s.size → byteOr s 0 j = byteOr t 0 j) : s = t := by
  apply ByteArray.ext
  apply Array.ext
  · exact h
  · intro i h1 h2
    have := hb i h1
    rw [byteOr_lt _ _ _ h1, byteOr_lt _ _ _ (h ▸ h1)] at this
    exact this
theorem byteOr_any {s : ByteArray} {j : Nat} (h : j < s.size) (d e : UInt8) : byteOr s d j = byteOr s e j := by rw [byteOr_lt _ _ _ h, byteOr_lt _ _ _ h]
theorem byteOr_empty (d : UInt8) (j : Nat) : byteOr ⟨#[]⟩ d j = d := byteOr_ge _ _ _ (Nat.zero_le _)

theorem And_any (old a : ByteArray) (hso : old.size ≤ 140737488355328) (hsa : a.size ≤ maxLen) (w : World) :
    Calls Try.prog 23 #[.string old, .string a] w fun e w' => e = .returned (.string (andB old a)) ∧ Below w.heap.size w w' := callsIn_wide.1 (And_in 5 (by omega) old a hso hsa w)
theorem Torn_any (old a b : ByteArray) (hso : old.size ≤ 140737488355328) (hsa : a.size ≤ maxLen) (hsb : b.size ≤ maxLen) (w : World) :
    Calls Try.prog 15 #[.string old, .string a, .string b] w fun e w' => e = .returned (.string (tornB old a b)) ∧ Below w.heap.size w w' := callsIn_wide.1 (Torn_in 5 (by omega) old a b hso hsa hsb w)

theorem u8_ext {x y : UInt8} (h : ∀ i, i < 8 → x.toBitVec.getLsbD i = y.toBitVec.getLsbD i) : x = y := UInt8.eq_of_toBitVec_eq (BitVec.eq_of_getLsbD_eq h)
theorem law_none (o w : UInt8) : o &&& ~~~(o &&& ~~~w &&& 0) = o := by apply u8_ext; intro i hi; simp
theorem law_all (o w : UInt8) : o &&& ~~~(o &&& ~~~w &&& 255) = o &&& w := by
  apply u8_ext; intro i hi
  have h : (255 : UInt8).toBitVec.getLsbD i = true := by revert i; decide
  simp only [UInt8.toBitVec_and, UInt8.toBitVec_not, BitVec.getLsbD_and, BitVec.getLsbD_not, h, hi, decide_true, Bool.true_and]
  cases o.toBitVec.getLsbD i <;> cases w.toBitVec.getLsbD i <;> rfl
theorem law_again (o w : UInt8) : o &&& w &&& w = o &&& w := by
  apply u8_ext; intro i hi
  simp only [UInt8.toBitVec_and, BitVec.getLsbD_and]
  cases o.toBitVec.getLsbD i <;> cases w.toBitVec.getLsbD i <;> rfl
theorem law_255 (o : UInt8) : o &&& 255 = o := by
  apply u8_ext; intro i hi
  have h : (255 : UInt8).toBitVec.getLsbD i = true := by revert i; decide
  simp only [UInt8.toBitVec_and, BitVec.getLsbD_and, h, Bool.and_true]
theorem law_n255 (o : UInt8) : o &&& ~~~255 = 0 := by
  rw [show (~~~255 : UInt8) = 0 from rfl]; simp
theorem law_self (o : UInt8) : o &&& ~~~o = 0 := by simp
theorem law_twice (o w a b : UInt8) : (o &&& ~~~(o &&& ~~~w &&& a)) &&& ~~~((o &&& ~~~(o &&& ~~~w &&& a)) &&& ~~~w &&& b) = o &&& ~~~(o &&& ~~~w &&& (a ||| b)) := by
  apply u8_ext; intro i hi
  simp only [UInt8.toBitVec_and, UInt8.toBitVec_or, UInt8.toBitVec_not, BitVec.getLsbD_and, BitVec.getLsbD_or, BitVec.getLsbD_not, hi, decide_true, Bool.true_and]
  cases o.toBitVec.getLsbD i <;> cases w.toBitVec.getLsbD i <;> cases a.toBitVec.getLsbD i <;> cases b.toBitVec.getLsbD i <;> rfl
theorem law_may1 (o w m : UInt8) : (o &&& ~~~(o &&& ~~~w &&& m)) &&& ~~~o = 0 := by
  apply u8_ext; intro i hi
  simp only [UInt8.toBitVec_and, UInt8.toBitVec_or, UInt8.toBitVec_not, BitVec.getLsbD_and, BitVec.getLsbD_or, BitVec.getLsbD_not, hi, decide_true, Bool.true_and]
  cases o.toBitVec.getLsbD i <;> cases w.toBitVec.getLsbD i <;> cases m.toBitVec.getLsbD i <;> simp
theorem law_may2 (o w m : UInt8) : o &&& w &&& ~~~(o &&& ~~~(o &&& ~~~w &&& m)) = 0 := by
  apply u8_ext; intro i hi
  simp only [UInt8.toBitVec_and, UInt8.toBitVec_or, UInt8.toBitVec_not, BitVec.getLsbD_and, BitVec.getLsbD_or, BitVec.getLsbD_not, hi, decide_true, Bool.true_and]
  cases o.toBitVec.getLsbD i <;> cases w.toBitVec.getLsbD i <;> cases m.toBitVec.getLsbD i <;> simp
theorem law_may3 (o w g : UInt8) (h1 : g &&& ~~~o = 0) (h2 : o &&& w &&& ~~~g = 0) : o &&& ~~~(o &&& ~~~w &&& (o &&& ~~~g)) = g := by
  apply u8_ext; intro i hi
  have e1 := congrArg (fun x : UInt8 => x.toBitVec.getLsbD i) h1
  have e2 := congrArg (fun x : UInt8 => x.toBitVec.getLsbD i) h2
  revert e1 e2
  simp only [UInt8.toBitVec_and, UInt8.toBitVec_or, UInt8.toBitVec_not, BitVec.getLsbD_and, BitVec.getLsbD_or, BitVec.getLsbD_not, hi, decide_true, Bool.true_and]
  cases o.toBitVec.getLsbD i <;> cases w.toBitVec.getLsbD i <;> cases g.toBitVec.getLsbD i <;> simp
theorem law_went (o w m : UInt8) : o &&& ~~~(o &&& ~~~(o &&& ~~~w &&& m)) = o &&& ~~~w &&& m := by
  apply u8_ext; intro i hi
  simp only [UInt8.toBitVec_and, UInt8.toBitVec_or, UInt8.toBitVec_not, BitVec.getLsbD_and, BitVec.getLsbD_or, BitVec.getLsbD_not, hi, decide_true, Bool.true_and]
  cases o.toBitVec.getLsbD i <;> cases w.toBitVec.getLsbD i <;> cases m.toBitVec.getLsbD i <;> rfl

end Go.Proofs.Ythagnnaemcknfaa
