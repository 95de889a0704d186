/- The walk of the law PowerAgain. -/
import Derived.Test.YthagnnaemcknfaaPowShown
import Derived.Test.YthagnnaemcknfaaFlashEq
namespace Go.Proofs.Ythagnnaemcknfaa
open Go.RowKit
set_option linter.unusedVariables false
set_option linter.unusedSimpArgs false

theorem law_done (o d m : UInt8) : (o &&& ~~~(o &&& ~~~(o &&& d) &&& m)) &&& d = o &&& d := by
  apply u8_ext; intro i hi
  simp only [UInt8.toBitVec_and, UInt8.toBitVec_not, BitVec.getLsbD_and, BitVec.getLsbD_not, hi, decide_true, Bool.true_and]
  cases o.toBitVec.getLsbD i <;> cases d.toBitVec.getLsbD i <;> cases m.toBitVec.getLsbD i <;> rfl
theorem and_torn (s d m : ByteArray) : andB (tornB s (andB s d) m) d = andB s d := bytes_eq (by rw [andB_size, andB_size, tornB_size]) fun j hj => by
  rw [andB_size, tornB_size] at hj
  rw [andB_byte _ _ _ _ (by rw [tornB_size]; exact hj), tornB_byte _ _ _ _ _ hj, andB_byte _ _ _ _ hj, andB_byte _ _ _ _ hj, law_done]
theorem ext_sz (s : ByteArray) (i j : Nat) (h1 : i ≤ j) (h2 : j ≤ s.size) : (s.extract i j).size = j - i := by rw [ByteArray.size_extract]; omega
theorem pre_ext (X Y : ByteArray) (t : Nat) (h1 : X.size = t) : (X ++ Y).extract 0 t = X := by
  have e1 : X.data.toList.length = t := by simpa using h1
  apply ByteArray.ext
  apply Array.ext'
  rw [ByteArray.data_extract, ByteArray.data_append, Array.toList_extract, Array.toList_append, List.extract_eq_take_drop, List.drop_zero, Nat.sub_zero, List.take_left' e1]
theorem post_ext (X Y : ByteArray) (t : Nat) (h1 : X.size = t) : (X ++ Y).extract t (X ++ Y).size = Y := by
  have e1 : X.data.toList.length = t := by simpa using h1
  have e2 : Y.data.toList.length = Y.size := by simp
  apply ByteArray.ext
  apply Array.ext'
  rw [ByteArray.data_extract, ByteArray.data_append, Array.toList_extract, Array.toList_append, List.extract_eq_take_drop, List.drop_left' e1, List.take_of_length_le (by rw [e2, ByteArray.size_append]; omega)]
theorem midB_parts (s u m : ByteArray) (i j : Nat) (h1 : i ≤ j) (h2 : j ≤ s.size) : (midB s u m i j).extract 0 i = s.extract 0 i ∧ (midB s u m i j).extract i j = tornB (s.extract i j) (u.extract i j) m ∧ (midB s u m i j).extract j (midB s u m i j).size = s.extract j s.size := by
  have z1 := ext_sz s 0 i (by omega) (by omega)
  have z2 : (tornB (s.extract i j) (u.extract i j) m).size = j - i := by rw [tornB_size]; exact ext_sz s i j h1 h2
  unfold midB
  refine ⟨?_, ?_, ?_⟩
  · rw [ByteArray.append_assoc, pre_ext _ _ _ (by omega)]
  · have := mid_ext (s.extract 0 i) (tornB (s.extract i j) (u.extract i j) m) (s.extract j s.size) i (j - i) (by omega) z2
    rwa [show i + (j - i) = j by omega] at this
  · rw [post_ext _ _ _ (by rw [ByteArray.size_append, z1, z2]; omega)]

theorem tear_size (f : Fl) (o : Oq) (mask : ByteArray) (k : Int) : ((tearF f o mask).bank k).size = (f.bank k).size := by
  unfold tearF
  by_cases h : doE f o = 0
  · rw [if_pos h]
    rcases doE_of h with ⟨h1, h2⟩ | ⟨h1, h2⟩
    · obtain ⟨hk, ht, hs, _⟩ := pgE_of h2
      have e : doF f o = f.put o.bank (progB (f.bank o.bank) o.at_.toNat o.data) := by unfold doF; rw [if_pos h1]; exact if_pos h2
      have hz : (tearS f o mask).size = (f.bank o.bank).size := by
        unfold tearS; rw [if_neg (by rw [h1]; decide)]
        exact midB_size _ _ _ _ _ (by omega) (by omega)
      rw [e, Fl.put_put]
      unfold Fl.put Fl.bank at *
      split <;> split <;> simp_all
    · obtain ⟨hk, hw⟩ := erE_of h2
      have e : doF f o = (f.put o.bank (fullB (f.bank o.bank).size)).wear o.bank (f.worn o.bank + 1) := by unfold doF; rw [if_neg (by rw [h1]; decide), if_pos h1]; exact if_pos h2
      have hb : (doF f o).bank o.bank = fullB (f.bank o.bank).size := by rw [e]; unfold Fl.put Fl.wear Fl.bank; split <;> simp_all
      have hz : (tearS f o mask).size = (f.bank o.bank).size := by
        unfold tearS; rw [if_pos h1, hb]
        rw [midB_size _ _ _ _ _ (by omega) (by rw [fullB_size]; omega), fullB_size]
      rw [e]
      unfold Fl.put Fl.wear Fl.bank at *
      split <;> split <;> simp_all
  · rw [if_neg h]

theorem again_plain (f : Fl) (o : Oq) (mask : ByteArray) (h : doE f o = 0) (h2 : doE (tearF f o mask) o = 0) : (doF (tearF f o mask) o).a = (doF f o).a ∧ (doF (tearF f o mask) o).b = (doF f o).b := by
  have hT : tearF f o mask = (doF f o).put o.bank (tearS f o mask) := if_pos h
  rcases doE_of h with ⟨h1, h3⟩ | ⟨h1, h3⟩
  · obtain ⟨hk, ht, hs, _⟩ := pgE_of h3
    have h4 : pgE (tearF f o mask) o.bank o.at_ o.data = 0 := by rcases doE_of h2 with ⟨_, h⟩ | ⟨h, _⟩ <;> first | exact h | (rw [h1] at h; cases h)
    have hj : o.at_.toNat + o.data.size ≤ (f.bank o.bank).size := by omega
    have e : ∀ g : Fl, pgE g o.bank o.at_ o.data = 0 → doF g o = g.put o.bank (progB (g.bank o.bank) o.at_.toNat o.data) := by
      intro g hg; unfold doF; rw [if_pos h1]; exact if_pos hg
    have hb : (tearF f o mask).bank o.bank = midB (f.bank o.bank) (progB (f.bank o.bank) o.at_.toNat o.data) mask o.at_.toNat (o.at_.toNat + o.data.size) := by
      rw [hT, Fl.put_bank]; unfold tearS; rw [if_neg (by rw [h1]; decide), e f h3, Fl.put_bank]
    have hp : progB ((tearF f o mask).bank o.bank) o.at_.toNat o.data = progB (f.bank o.bank) o.at_.toNat o.data := by
      obtain ⟨m1, m2, m3⟩ := midB_parts (f.bank o.bank) (progB (f.bank o.bank) o.at_.toNat o.data) mask o.at_.toNat (o.at_.toNat + o.data.size) (by omega) hj
      rw [hb]
      unfold progB at *
      rw [m1, m2, m3]
      have := progB_mid (f.bank o.bank) o.data o.at_.toNat hj
      unfold progB at this
      rw [this, and_torn]
    rw [e _ h4, hp, hT, e f h3, Fl.put_put, Fl.put_put]
    exact ⟨rfl, rfl⟩
  · have h4 : erE (tearF f o mask) o.bank = 0 := by rcases doE_of h2 with ⟨h, _⟩ | ⟨_, h⟩ <;> first | exact h | (rw [h1] at h; cases h)
    obtain ⟨hk, _⟩ := erE_of h3
    have e : ∀ g : Fl, erE g o.bank = 0 → doF g o = (g.put o.bank (fullB (g.bank o.bank).size)).wear o.bank (g.worn o.bank + 1) := by
      intro g hg; unfold doF; rw [if_neg (by rw [h1]; decide), if_pos h1]; exact if_pos hg
    have hz := tear_size f o mask o.bank
    rw [e _ h4, hz, hT, e f h3]
    unfold Fl.put Fl.wear
    rcases hk with h | h <;> simp [h]
end Go.Proofs.Ythagnnaemcknfaa
