/- Plain laws of the flash functions. -/
import Derived.Test.YthagnnaemcknfaaFlashM
namespace Go.Proofs.Ythagnnaemcknfaa
open Go.RowKit
set_option linter.unusedVariables false
set_option linter.unusedSimpArgs false

theorem progB_size (s d : ByteArray) (t : Nat) (h : t + d.size ≤ s.size) : (progB s t d).size = s.size := by
  unfold progB
  rw [ByteArray.size_append, ByteArray.size_append, andB_size, ByteArray.size_extract, ByteArray.size_extract, ByteArray.size_extract]
  omega
theorem Fl.put_bank (f : Fl) (k : Int) (s : ByteArray) : (f.put k s).bank k = s := by
  unfold Fl.put Fl.bank; split <;> rfl
theorem pgE_of {f : Fl} {k t : Int} {d : ByteArray} (h : pgE f k t d = 0) : (k = 0 ∨ k = 1) ∧ 0 ≤ t ∧ t + (d.size : Int) ≤ ((f.bank k).size : Int) ∧ t % 2 = 0 ∧ d.size % 2 = 0 ∧ cutE f k t (d.size : Int) = 0 := by
  unfold pgE at h
  split at h
  · contradiction
  · rename_i h1
    have h1 := Classical.not_not.1 h1
    obtain ⟨a1, a2, a3, a4⟩ := cutE_of h1
    split at h
    · cases h
    · exact ⟨a1, a2, a4, by omega, by omega, h1⟩
theorem put_ok {f : Fl} (hf : f.ok) (k : Int) (s : ByteArray) (h : s.size ≤ 500) : (f.put k s).ok := by
  unfold Fl.put; split
  · exact ⟨hf.hx, hf.hy, hf.hl, h, hf.hb⟩
  · exact ⟨hf.hx, hf.hy, hf.hl, hf.ha, h⟩
theorem pgF_ok {f : Fl} (hf : f.ok) (k t : Int) (d : ByteArray) : (pgF f k t d).ok := by
  unfold pgF; split
  · rename_i h
    obtain ⟨h1, h2, h3, _⟩ := pgE_of h
    have := hf.bank k
    exact put_ok hf k _ (by rw [progB_size _ _ _ (by omega)]; exact this)
  · exact hf
theorem wear_ok {f : Fl} (hf : f.ok) (k n : Int) (h : (Lit.int .i64 n).wf = true) : (f.wear k n).ok := by
  unfold Fl.wear; split
  · exact ⟨h, hf.hy, hf.hl, hf.ha, hf.hb⟩
  · exact ⟨hf.hx, h, hf.hl, hf.ha, hf.hb⟩
theorem worn_wf {f : Fl} (hf : f.ok) (k : Int) : (Lit.int .i64 (f.worn k)).wf = true := by
  unfold Fl.worn; split
  · exact hf.hx
  · exact hf.hy
theorem erF_ok {f : Fl} (hf : f.ok) (k : Int) : (erF f k).ok := by
  unfold erF; split
  · rename_i h
    have hw := worn_wf hf k
    have hl := hf.hl
    have := hf.bank k
    unfold erE at h
    split at h
    · cases h
    · split at h
      · cases h
      · exact wear_ok (put_ok hf k _ (by rw [fullB_size]; exact this)) k _ (by
          simp [Lit.wf, IntKind.min, IntKind.max, IntKind.signed, IntKind.bits] at hw hl ⊢; omega)
  · exact hf

/-- reading what was programmed -/
theorem cutE_size {f g : Fl} {k t n : Int} (h : (f.bank k).size = (g.bank k).size) : cutE f k t n = cutE g k t n := by
  have e : badAt (f.bank k) t n ↔ badAt (g.bank k) t n := by unfold badAt; rw [h]
  unfold cutE; simp only [e]
theorem pgF_size (f : Fl) (k t : Int) (d : ByteArray) : ((pgF f k t d).bank k).size = (f.bank k).size := by
  unfold pgF; split
  · rename_i h
    obtain ⟨h1, h2, h3, _⟩ := pgE_of h
    rw [Fl.put_bank, progB_size _ _ _ (by omega)]
  · rfl
theorem ext_join (s : ByteArray) (a b c : Nat) (h1 : a ≤ b) (h2 : b ≤ c) : s.extract a b ++ s.extract b c = s.extract a c := by
  rw [ByteArray.extract_append_extract, Nat.min_eq_left h1, Nat.max_eq_right h2]

theorem parts_bad {f : Fl} {k : Int} {t n m : Nat} (h : rdE f k t (n + m) ≠ 0) : rdS f k t (n + m) = ⟨#[]⟩ ∧ (rdE f k t n ≠ 0 ∨ rdE f k (t + n) m ≠ 0) := by
  refine ⟨rdS_bad h, ?_⟩
  by_cases h1 : rdE f k t n = 0
  · by_cases h2 : rdE f k (t + n) m = 0
    · exfalso
      obtain ⟨a1, a2, a3, a4⟩ := cutE_of h1
      obtain ⟨b1, b2, b3, b4⟩ := cutE_of h2
      exact h (cutE_0 a1 (by unfold badAt; omega))
    · exact .inr h2
  · exact .inl h1
theorem parts_ok {f : Fl} {k : Int} {t n m : Nat} (h : rdE f k t (n + m) = 0) : rdE f k t n = 0 ∧ rdE f k (t + n) m = 0 ∧ rdS f k t (n + m) = rdS f k t n ++ rdS f k (t + n) m := by
  obtain ⟨a1, a2, a3, a4⟩ := cutE_of h
  have h1 : rdE f k t n = 0 := cutE_0 a1 (by unfold badAt; omega)
  have h2 : rdE f k (t + n) m = 0 := cutE_0 a1 (by unfold badAt; omega)
  refine ⟨h1, h2, ?_⟩
  rw [show rdS f k t (n + m) = _ from if_pos h, show rdS f k t n = _ from if_pos h1, show rdS f k (t + n) m = _ from if_pos h2]
  rw [show (t : Int).toNat = t by omega, show ((n : Int) + (m : Int)).toNat = n + m by omega, show ((t : Int) + (n : Int)).toNat = t + n by omega, show (n : Int).toNat = n by omega, show (m : Int).toNat = m by omega]
  rw [ext_join _ _ _ _ (by omega) (by omega), Nat.add_assoc]

theorem mid_ext (X Y Z : ByteArray) (t n : Nat) (h1 : X.size = t) (h2 : Y.size = n) : (X ++ Y ++ Z).extract t (t + n) = Y := by
  have e1 : X.data.toList.length = t := by simpa using h1
  have e2 : Y.data.toList.length = n := by simpa using h2
  apply ByteArray.ext
  apply Array.ext'
  rw [ByteArray.data_extract, ByteArray.data_append, ByteArray.data_append, Array.toList_extract, Array.toList_append, Array.toList_append, List.extract_eq_take_drop, List.append_assoc, List.drop_left' e1, Nat.add_sub_cancel_left, List.take_left' e2]
theorem progB_mid (s d : ByteArray) (t : Nat) (h : t + d.size ≤ s.size) : (progB s t d).extract t (t + d.size) = andB (s.extract t (t + d.size)) d :=
  mid_ext _ _ _ _ _ (by rw [ByteArray.size_extract]; omega) (by rw [andB_size, ByteArray.size_extract]; omega)

theorem byteOr_app (X Y : ByteArray) (j : Nat) : byteOr (X ++ Y) 0 j = if j < X.size then byteOr X 0 j else byteOr Y 0 (j - X.size) := by
  unfold byteOr
  rw [ByteArray.data_append, Array.toList_append]
  have e1 : X.data.toList.length = X.size := by simp
  split
  · rename_i h; rw [List.getD_eq_getElem?_getD, List.getElem?_append_left (by omega), ← List.getD_eq_getElem?_getD]
  · rename_i h; rw [List.getD_eq_getElem?_getD, List.getElem?_append_right (by omega), ← List.getD_eq_getElem?_getD, e1]
theorem byteOr_ext (s : ByteArray) (d : UInt8) (a b j : Nat) (hb : b ≤ s.size) (h : a + j < b) : byteOr (s.extract a b) d j = byteOr s 0 (a + j) := by
  have hz : (s.extract a b).size = b - a := by rw [ByteArray.size_extract]; omega
  rw [byteOr_lt _ _ _ (by omega), byteOr_lt _ _ _ (by omega), ByteArray.getElem_extract]

theorem progB_byte (s d : ByteArray) (t : Nat) (h : t + d.size ≤ s.size) (j : Nat) (hj : j < s.size) :
    byteOr (progB s t d) 0 j = if t ≤ j ∧ j < t + d.size then byteOr s 0 j &&& byteOr d 255 (j - t) else byteOr s 0 j := by
  have z1 : (s.extract 0 t).size = t := by rw [ByteArray.size_extract]; omega
  have z2 : (s.extract t (t + d.size)).size = d.size := by rw [ByteArray.size_extract]; omega
  have z3 : (andB (s.extract t (t + d.size)) d).size = d.size := by rw [andB_size, z2]
  unfold progB
  rw [byteOr_app, byteOr_app, ByteArray.size_append, z1, z3]
  by_cases h1 : j < t
  · rw [if_pos (by omega), if_pos h1, if_neg (by omega), byteOr_ext _ _ _ _ _ (by omega) (by omega), Nat.zero_add]
  · by_cases h2 : j < t + d.size
    · rw [if_pos h2, if_neg h1, if_pos (by omega), andB_byte _ _ _ _ (by omega), byteOr_ext _ _ _ _ _ (by omega) (by omega), show t + (j - t) = j by omega]
    · rw [if_neg h2, if_neg (by omega), byteOr_ext _ _ _ _ _ (by omega) (by omega), show t + d.size + (j - (t + d.size)) = j by omega]

theorem Fl.put_put (f : Fl) (k : Int) (s u : ByteArray) : (f.put k s).put k u = f.put k u := by
  unfold Fl.put; by_cases h : k = 0 <;> simp [h]
theorem pgE_size {f g : Fl} {k t : Int} {d : ByteArray} (h : (f.bank k).size = (g.bank k).size) : pgE f k t d = pgE g k t d := by
  unfold pgE; rw [cutE_size h]
theorem pgE_twice (f : Fl) (k a b : Int) (s t : ByteArray) : pgE (pgF f k a s) k b t = pgE f k b t := pgE_size (pgF_size f k a s)
theorem pgF_twice (f : Fl) (k a : Int) (s : ByteArray) : pgF (pgF f k a s) k a s = pgF f k a s := by
  by_cases h : pgE f k a s = 0
  · have h2 : pgE (pgF f k a s) k a s = 0 := by rw [pgE_twice]; exact h
    obtain ⟨h3, h4, h5, _⟩ := pgE_of h
    have e : pgF f k a s = f.put k (progB (f.bank k) a.toNat s) := if_pos h
    rw [show pgF (pgF f k a s) k a s = (pgF f k a s).put k (progB ((pgF f k a s).bank k) a.toNat s) from if_pos h2, e, Fl.put_put, Fl.put_bank]
    congr 1
    have hb : a.toNat + s.size ≤ (f.bank k).size := by omega
    have hz := progB_size (f.bank k) s a.toNat hb
    apply bytes_eq (by rw [progB_size _ _ _ (by omega)])
    intro j hj
    rw [progB_size _ _ _ (by omega), hz] at hj
    rw [progB_byte _ _ _ (by omega) j (by omega), progB_byte _ _ _ hb j hj]
    split
    · rw [law_again]
    · rfl
  · rw [pgF_bad h, pgF_bad h]
theorem pgF_swap (f : Fl) (k a b : Int) (s t : ByteArray) : pgF (pgF f k a s) k b t = pgF (pgF f k b t) k a s := by
  by_cases h : pgE f k a s = 0
  · by_cases h' : pgE f k b t = 0
    · have h2 : pgE (pgF f k a s) k b t = 0 := by rw [pgE_twice]; exact h'
      have h2' : pgE (pgF f k b t) k a s = 0 := by rw [pgE_twice]; exact h
      obtain ⟨h3, h4, h5, _⟩ := pgE_of h
      obtain ⟨h3', h4', h5', _⟩ := pgE_of h'
      rw [show pgF (pgF f k a s) k b t = (pgF f k a s).put k (progB ((pgF f k a s).bank k) b.toNat t) from if_pos h2, show pgF (pgF f k b t) k a s = (pgF f k b t).put k (progB ((pgF f k b t).bank k) a.toNat s) from if_pos h2',
        show pgF f k a s = f.put k (progB (f.bank k) a.toNat s) from if_pos h, show pgF f k b t = f.put k (progB (f.bank k) b.toNat t) from if_pos h', Fl.put_put, Fl.put_bank, Fl.put_put, Fl.put_bank]
      congr 1
      have hb : a.toNat + s.size ≤ (f.bank k).size := by omega
      have hb' : b.toNat + t.size ≤ (f.bank k).size := by omega
      have hz := progB_size (f.bank k) s a.toNat hb
      have hz' := progB_size (f.bank k) t b.toNat hb'
      have y1 := progB_size (progB (f.bank k) a.toNat s) t b.toNat (by omega)
      have y2 := progB_size (progB (f.bank k) b.toNat t) s a.toNat (by omega)
      apply bytes_eq (by omega)
      intro j hj
      rw [y1, hz] at hj
      rw [progB_byte _ _ _ (by omega) j (by omega), progB_byte _ _ _ hb j hj, progB_byte _ _ _ (by omega) j (by omega), progB_byte _ _ _ hb' j hj]
      split <;> split <;> first | rfl | (rw [UInt8.and_assoc, UInt8.and_assoc, UInt8.and_comm (byteOr t 255 _)])
    · have h2 : pgE (pgF f k a s) k b t ≠ 0 := by rw [pgE_twice]; exact h'
      rw [pgF_bad h2, pgF_bad h']
  · have h2 : pgE (pgF f k b t) k a s ≠ 0 := by rw [pgE_twice]; exact h
    rw [pgF_bad h2, pgF_bad h]

/-- what was programmed is read -/
theorem sees_bad {f : Fl} {k t : Int} {d : ByteArray} (h : pgE f k t d ≠ 0) : (rdE f k t (d.size : Int) ≠ 0 ∧ pgE f k t d = rdE f k t (d.size : Int)) ∨ (rdE f k t (d.size : Int) = 0 ∧ pgE f k t d = 3) := by
  by_cases h1 : cutE f k t (d.size : Int) = 0
  · refine .inr ⟨h1, ?_⟩
    unfold pgE at h ⊢
    rw [if_neg (by omega)] at h ⊢
    split at h
    · rename_i h2; rw [if_pos h2]
    · contradiction
  · exact .inl ⟨h1, pgE_cut rfl h1⟩
theorem blank_and (s d : ByteArray) (h : blankS s = true) (hz : s.size = d.size) : andB s d = d := by
  apply bytes_eq (by rw [andB_size, hz])
  intro j hj
  rw [andB_size] at hj
  have hb : byteOr s 0 j = 255 := by
    rw [byteOr_lt _ _ _ hj]
    unfold blankS at h
    rw [List.all_eq_true] at h
    exact beq_iff_eq.1 (h _ (by show s[j] ∈ s.data.toList; exact Array.mem_toList_iff.2 (Array.getElem_mem (xs := s.data) hj)))
  rw [andB_byte _ _ _ _ hj, hb, UInt8.and_comm, law_255, byteOr_any (by omega) 255 0]
theorem sees_ok {f : Fl} {k t : Int} {d : ByteArray} (h : pgE f k t d = 0) : rdE f k t (d.size : Int) = 0 ∧ rdE (pgF f k t d) k t (d.size : Int) = 0 ∧ rdS (pgF f k t d) k t (d.size : Int) = andB (rdS f k t (d.size : Int)) d ∧ (rdS f k t (d.size : Int)).size = d.size := by
  obtain ⟨h3, h4, h5, _, _, h6⟩ := pgE_of h
  have h7 : cutE (pgF f k t d) k t (d.size : Int) = 0 := (cutE_size (pgF_size f k t d)).trans h6
  refine ⟨h6, h7, ?_, ?_⟩
  · rw [show rdS (pgF f k t d) k t (d.size : Int) = _ from if_pos h7, show rdS f k t (d.size : Int) = _ from if_pos h6, show pgF f k t d = f.put k (progB (f.bank k) t.toNat d) from if_pos h, Fl.put_bank, Int.toNat_natCast, progB_mid _ _ _ (by omega)]
  · rw [show rdS f k t (d.size : Int) = _ from if_pos h6, ByteArray.size_extract]; omega
end Go.Proofs.Ythagnnaemcknfaa
