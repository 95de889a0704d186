/- PowerTears: the plain laws. -/
import Derived.Test.YthagnnaemcknfaaPowAgainW
import Derived.Test.YthagnnaemcknfaaRefMay
namespace Go.Proofs.Ythagnnaemcknfaa
open Go.RowKit
set_option linter.unusedVariables false
set_option linter.unusedSimpArgs false

theorem fullB_at (n : Nat) (d : UInt8) (j : Nat) (h : j < n) : byteOr (fullB n) d j = 255 := by
  unfold byteOr fullB; simp [h]
theorem midB_byte (s u m : ByteArray) (i j x : Nat) (h1 : i ≤ j) (h2 : j ≤ s.size) (h3 : j ≤ u.size) (hx : x < s.size) :
    byteOr (midB s u m i j) 0 x = if i ≤ x ∧ x < j then (byteOr s 0 x &&& ~~~(byteOr s 0 x &&& ~~~(byteOr u 0 x) &&& byteOr m 0 (x - i))) else byteOr s 0 x := by
  have z1 := ext_sz s 0 i (by omega) (by omega)
  have z2 : (tornB (s.extract i j) (u.extract i j) m).size = j - i := by rw [tornB_size]; exact ext_sz s i j h1 h2
  have z4 := ext_sz s i j h1 h2
  have z5 := ext_sz u i j h1 h3
  unfold midB
  rw [byteOr_app, byteOr_app, ByteArray.size_append, z1, z2]
  by_cases h : x < i
  · rw [if_pos (by omega), if_pos (by omega), if_neg (by omega), byteOr_ext _ _ _ _ _ (by omega) (by omega), Nat.zero_add]
  · by_cases h' : x < j
    · rw [if_pos (by omega), if_neg (by omega), if_pos ⟨by omega, h'⟩, tornB_byte _ _ _ _ _ (by omega), byteOr_ext _ _ _ _ _ (by omega) (by omega), byteOr_any (by omega) 255 0, byteOr_ext _ _ _ _ _ (by omega) (by omega), show i + (x - (i - 0)) = x by omega, Nat.sub_zero]
    · rw [if_neg (by omega), if_neg (by omega), byteOr_ext _ _ _ _ _ (by omega) (by omega), show j + (x - (i - 0 + (j - i))) = x by omega]

theorem inv_bits (mask : ByteArray) (n x : Nat) (h : x < n) : byteOr (invB mask n) 0 x = 0 ∨ byteOr (invB mask n) 0 x = 255 := by
  have hl := oddR_length mask n n
  have h1 : byteOr (invB mask n) 0 x = ~~~ ((oddR mask n n).getD x 0) := by
    show (invR (oddR mask n n) n).getD x 0 = _
    rw [List.getD_eq_getElem?_getD, List.getElem?_eq_getElem (by rw [invR_length, hl]; exact h)]
    simp [invR, h]
  have h2 : (oddR mask n n).getD x 0 = oddAt mask x := by
    rw [List.getD_eq_getElem?_getD, List.getElem?_eq_getElem (by rw [hl]; exact h)]
    simp [oddR, h]
  rw [h1, h2]
  unfold oddAt
  split
  · exact .inl rfl
  · exact .inr rfl

theorem put_other (f : Fl) (s : ByteArray) : (f.put 0 s).b = f.b ∧ (f.put 1 s).a = f.a ∧ (f.put 0 s).y = f.y ∧ (f.put 1 s).x = f.x := ⟨rfl, rfl, rfl, rfl⟩

/-- of a program that is torn -/
theorem tears_one {f : Fl} {o : Oq} (mask : ByteArray) (h1 : o.kind = 1) (h : doE f o = 0) :
    (o.bank = 0 ∨ o.bank = 1) ∧ 0 ≤ o.at_ ∧ o.at_ + (o.data.size : Int) ≤ ((f.bank o.bank).size : Int) ∧ tearF f o mask = f.put o.bank (tearS f o mask) ∧ (tearS f o mask).size = (f.bank o.bank).size ∧
    (∀ i, i < (f.bank o.bank).size → (i < o.at_.toNat ∨ o.at_.toNat + o.data.size ≤ i) → byteOr (tearS f o mask) 0 i = byteOr (f.bank o.bank) 0 i) ∧
    (∀ i, i < (f.bank o.bank).size → o.at_.toNat ≤ i → i < o.at_.toNat + o.data.size → ∀ j, j < 8 → mayBit ((byteOr (f.bank o.bank) 0 i).toBitVec.getLsbD j) ((byteOr o.data 255 (i - o.at_.toNat)).toBitVec.getLsbD j) ((byteOr (tearS f o mask) 0 i).toBitVec.getLsbD j) = true) := by
  have h2 : pgE f o.bank o.at_ o.data = 0 := by rcases doE_of h with ⟨_, h⟩ | ⟨h, _⟩ <;> first | exact h | (rw [h1] at h; cases h)
  obtain ⟨hk, ht, hs, _⟩ := pgE_of h2
  have hj : o.at_.toNat + o.data.size ≤ (f.bank o.bank).size := by omega
  have eF : doF f o = f.put o.bank (progB (f.bank o.bank) o.at_.toNat o.data) := by unfold doF; rw [if_pos h1]; exact if_pos h2
  have eS : tearS f o mask = midB (f.bank o.bank) (progB (f.bank o.bank) o.at_.toNat o.data) mask o.at_.toNat (o.at_.toNat + o.data.size) := by
    unfold tearS; rw [if_neg (by rw [h1]; decide), eF, Fl.put_bank]
  have hz := progB_size (f.bank o.bank) o.data o.at_.toNat hj
  refine ⟨hk, ht, hs, ?_, ?_, ?_, ?_⟩
  · unfold tearF; rw [if_pos h, eF, Fl.put_put]
  · rw [eS, midB_size _ _ _ _ _ (by omega) hj]
  · intro i hi hio
    rw [eS, midB_byte _ _ _ _ _ _ (by omega) hj (by omega) hi, if_neg (by omega)]
  · intro i hi h3 h4 j hjj
    rw [eS, midB_byte _ _ _ _ _ _ (by omega) hj (by omega) hi, if_pos ⟨h3, h4⟩, progB_byte _ _ _ hj i hi, if_pos ⟨h3, h4⟩]
    generalize byteOr (f.bank o.bank) 0 i = A
    generalize byteOr o.data 255 (i - o.at_.toNat) = D
    generalize byteOr mask 0 (i - o.at_.toNat) = M
    simp only [UInt8.toBitVec_and, UInt8.toBitVec_not, BitVec.getLsbD_and, BitVec.getLsbD_not, hjj, decide_true, Bool.true_and]
    cases A.toBitVec.getLsbD j <;> cases D.toBitVec.getLsbD j <;> cases M.toBitVec.getLsbD j <;> rfl

/-- of an erase that is torn -/
theorem tears_two {f : Fl} {o : Oq} (mask : ByteArray) (h1 : o.kind = 2) (h : doE f o = 0) :
    (o.bank = 0 ∨ o.bank = 1) ∧ tearF f o mask = (f.wear o.bank (f.worn o.bank + 1)).put o.bank (tearS f o mask) ∧ (tearS f o mask).size = (f.bank o.bank).size ∧
    (∀ i, i < (f.bank o.bank).size → byteOr (tearS f o mask) 0 i = byteOr (f.bank o.bank) 0 i ∨ byteOr (tearS f o mask) 0 i = 255) := by
  have h2 : erE f o.bank = 0 := by rcases doE_of h with ⟨h, _⟩ | ⟨_, h⟩ <;> first | exact h | (rw [h1] at h; cases h)
  obtain ⟨hk, _⟩ := erE_of h2
  have eF : doF f o = (f.put o.bank (fullB (f.bank o.bank).size)).wear o.bank (f.worn o.bank + 1) := by unfold doF; rw [if_neg (by rw [h1]; decide), if_pos h1]; exact if_pos h2
  have eB : (doF f o).bank o.bank = fullB (f.bank o.bank).size := by rw [eF]; unfold Fl.put Fl.wear Fl.bank; rcases hk with e | e <;> simp [e]
  have eS : tearS f o mask = midB (fullB (f.bank o.bank).size) (f.bank o.bank) (invB mask (f.bank o.bank).size) 0 (f.bank o.bank).size := by unfold tearS; rw [if_pos h1, eB]
  refine ⟨hk, ?_, ?_, ?_⟩
  · unfold tearF; rw [if_pos h, eF]; unfold Fl.put Fl.wear; rcases hk with e | e <;> simp [e]
  · rw [eS, midB_size _ _ _ _ _ (by omega) (by rw [fullB_size]; omega), fullB_size]
  · intro i hi
    rw [eS, midB_byte _ _ _ _ _ _ (by omega) (by rw [fullB_size]; omega) (by omega) (by rw [fullB_size]; exact hi), if_pos ⟨Nat.zero_le _, hi⟩, fullB_at _ _ _ hi, Nat.sub_zero]
    rcases inv_bits mask _ i hi with e | e
    · rw [e]; exact .inr (by simp)
    · rw [e]; refine .inl ?_
      apply u8_ext; intro b hb
      have h255 : (255 : UInt8).toBitVec.getLsbD b = true := by revert b; decide
      simp only [UInt8.toBitVec_and, UInt8.toBitVec_not, BitVec.getLsbD_and, BitVec.getLsbD_not, hb, decide_true, Bool.true_and, h255]
      cases (byteOr (f.bank o.bank) 0 i).toBitVec.getLsbD b <;> rfl
end Go.Proofs.Ythagnnaemcknfaa
