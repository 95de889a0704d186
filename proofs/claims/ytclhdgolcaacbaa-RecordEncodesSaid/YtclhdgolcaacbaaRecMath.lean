/- Records: encoding and decoding are each other's inverse; plain laws. -/
import Derived.Test.YtclhdgolcaacbaaGood
namespace Go.Proofs.Ytclhdgolcaacbaa
open Go.RowKit
set_option linter.unusedVariables false
set_option linter.unusedSimpArgs false

theorem bytes_list {s t : ByteArray} (h : s.data.toList = t.data.toList) : s = t := ByteArray.ext (Array.ext' h)
theorem ext_list' (s : ByteArray) (a b : Nat) : (s.extract a b).data.toList = (s.data.toList.drop a).take (b - a) := by
  rw [ByteArray.data_extract, Array.toList_extract]

theorem enc_list (k : Int) (n d : Nat) : (encB k n d).data.toList = headL k n d ++ Crc.lowL (Crc.sumS (headB k n d)) ++ [90, 60] := by
  unfold encB bodyB; rw [ByteArray.data_append]; simp

theorem head_length (k : Int) (n d : Nat) : (headL k n d).length = 18 := by simp [headL, putL_length]
theorem low_length (x : Crc.W) : (Crc.lowL x).length = 4 := rfl

theorem rev_rev (x : Crc.W) : Crc.rev32 (Crc.rev32 x) = x := by
  apply BitVec.eq_of_getLsbD_eq
  intro i hi
  have h := fun y (j : Nat) (hj : j < 8) => Crc.rev_at y j hj
  rcases (show i < 8 ∨ (8 ≤ i ∧ i < 16) ∨ (16 ≤ i ∧ i < 24) ∨ 24 ≤ i from by omega) with h1 | ⟨h1, h2⟩ | ⟨h1, h2⟩ | h1
  · rw [(h (Crc.rev32 x) i h1).2.2.2, (h x i h1).1]
  · obtain ⟨j, rfl⟩ : ∃ j, i = 8 + j := ⟨i - 8, by omega⟩
    rw [(h (Crc.rev32 x) j (by omega)).2.2.1, (h x j (by omega)).2.1]
  · obtain ⟨j, rfl⟩ : ∃ j, i = 16 + j := ⟨i - 16, by omega⟩
    rw [(h (Crc.rev32 x) j (by omega)).2.1, (h x j (by omega)).2.2.1]
  · obtain ⟨j, rfl⟩ : ∃ j, i = 24 + j := ⟨i - 24, by omega⟩
    rw [(h (Crc.rev32 x) j (by omega)).1, (h x j (by omega)).2.2.2]

theorem get_low (x : Crc.W) : BitVec.ofNat 32 (getL (Crc.lowL x)) = Crc.rev32 x := by
  rw [← Crc.putL_rev, getL_putL]
  apply BitVec.eq_of_toNat_eq
  have := (Crc.rev32 x).isLt
  rw [BitVec.toNat_ofNat, Nat.mod_eq_of_lt (a := (Crc.rev32 x).toNat) (by exact this), Nat.mod_eq_of_lt this]

/-- four bytes are a word's just if they tell it -/
theorem check_iff (l : List UInt8) (hl : l.length = 4) (x : Crc.W) : Crc.rev32 (BitVec.ofNat 32 (getL l)) = x ↔ l = Crc.lowL x := by
  constructor
  · intro h
    refine getL_inj _ _ (by rw [hl]; rfl) ?_
    rw [← h]
    have := getL_lt l
    rw [hl] at this
    have e : (BitVec.ofNat 32 (getL l)).toNat = getL l := by rw [BitVec.toNat_ofNat, Nat.mod_eq_of_lt (by exact this)]
    have e2 := get_low (Crc.rev32 (BitVec.ofNat 32 (getL l)))
    rw [rev_rev] at e2
    have h2 := getL_lt (Crc.lowL (Crc.rev32 (BitVec.ofNat 32 (getL l))))
    rw [low_length] at h2
    have e3 := congrArg BitVec.toNat e2
    rw [BitVec.toNat_ofNat, Nat.mod_eq_of_lt (by exact h2), e] at e3
    exact e3.symm
  · rintro rfl
    rw [get_low, rev_rev]

theorem range18 (s : ByteArray) (h : s.size = 24) : Crc.rangeW s 0 18 = Crc.sum (s.data.toList.take 18) := by
  rw [Crc.rangeW_some s 0 18 0 18 (by decide) (by rw [h]; decide) (by decide)]
  unfold Crc.sumS
  rw [ext_list', List.drop_zero]

theorem blank_not (s : ByteArray) (h : s.size = 24) (h2 : byteAt s 0 = 165) : blankS s = false := by
  unfold blankS
  rw [List.all_eq_false]
  refine ⟨165, ?_, by decide⟩
  rw [← h2]
  unfold byteAt
  have : 0 < s.data.toList.length := by simp; have : s.size = s.data.size := rfl; omega
  rw [List.getD_eq_getElem?_getD, List.getElem?_eq_getElem this]
  exact List.getElem_mem this

/-- bytes with a whole body: what is told -/
theorem dec_body (k : Int) (n d : Nat) (m : ByteArray) (hm : m.size = 2) (h1 : 1 ≤ k) (h3 : k ≤ 3) (hn : n < 18446744073709551616) (hd : d < 18446744073709551616) :
    dec (bodyB k n d ++ m) = if m = ⟨#[90, 60]⟩ then (k.toNat, n, d, 0) else (0, 0, 0, 9) := by
  have hl : (bodyB k n d ++ m).data.toList = headL k n d ++ Crc.lowL (Crc.sumS (headB k n d)) ++ m.data.toList := by
    unfold bodyB; rw [ByteArray.data_append]; simp
  have hml : m.data.toList.length = 2 := by simpa using hm
  have hsz : (bodyB k n d ++ m).size = 24 := by rw [ByteArray.size_append, bodyB_size, hm]
  have hh := head_length k n d
  have hlo := low_length (Crc.sumS (headB k n d))
  generalize hs : bodyB k n d ++ m = s at *
  have hx : headL k n d = 165 :: kindB k :: (putL n 8 ++ putL d 8) := by simp [headL]
  have b0 : byteAt s 0 = 165 := by unfold byteAt; rw [hl, hx]; rfl
  have b1 : byteAt s 1 = kindB k := by unfold byteAt; rw [hl, hx]; rfl
  have hk : (kindB k).toNat = k.toNat := by
    have := kindB_int k
    omega
  have g1 : getN (s.extract 2 10) = n := by
    unfold getN; rw [ext_list', hl, hx]
    have : ((165 :: kindB k :: (putL n 8 ++ putL d 8) ++ Crc.lowL (Crc.sumS (headB k n d)) ++ m.data.toList).drop 2).take 8 = putL n 8 := by
      simp [putL_length]
    rw [this, getL_putL]; exact Nat.mod_eq_of_lt hn
  have g2 : getN (s.extract 10 18) = d := by
    unfold getN; rw [ext_list', hl, hx]
    have : ((165 :: kindB k :: (putL n 8 ++ putL d 8) ++ Crc.lowL (Crc.sumS (headB k n d)) ++ m.data.toList).drop 10).take 8 = putL d 8 := by
      rw [show (165 :: kindB k :: (putL n 8 ++ putL d 8) ++ Crc.lowL (Crc.sumS (headB k n d)) ++ m.data.toList) = ([165, kindB k] ++ putL n 8) ++ (putL d 8 ++ (Crc.lowL (Crc.sumS (headB k n d)) ++ m.data.toList)) by simp]
      rw [List.drop_left' (by simp [putL_length]), List.take_left' (by simp [putL_length])]
    rw [this, getL_putL]; exact Nat.mod_eq_of_lt hd
  have g3 : getN (s.extract 18 22) = getL (Crc.lowL (Crc.sumS (headB k n d))) := by
    unfold getN; rw [ext_list', hl, List.append_assoc, List.drop_left' hh, List.take_left' hlo]
  have g4 : s.extract 22 24 = m := bytes_list (by
    rw [ext_list', hl, List.drop_left' (by simp [hh, hlo]), List.take_of_length_le (by omega)])
  have g5 : Crc.rangeW s 0 18 = Crc.sumS (headB k n d) := by
    rw [range18 s hsz, hl, List.append_assoc, List.take_left' hh]; rfl
  unfold dec
  rw [if_neg (by simp [hsz]), if_neg (by rw [blank_not s hsz b0]; simp), if_neg (by simp [b0]), if_neg (by rw [g3, g5, get_low, rev_rev]; simp), if_neg (by rw [b1, hk]; omega), g4, g1, g2, b1, hk]
  by_cases e : m = ⟨#[90, 60]⟩ <;> simp [e]

theorem dec_enc (k : Int) (n d : Nat) (h1 : 1 ≤ k) (h3 : k ≤ 3) (hn : n < 18446744073709551616) (hd : d < 18446744073709551616) : dec (encB k n d) = (k.toNat, n, d, 0) := by
  unfold encB
  rw [dec_body k n d _ rfl h1 h3 hn hd, if_pos rfl]

theorem dec_size (s : ByteArray) (h : decE s = 0) : s.size = 24 := by
  unfold decE dec at h
  by_cases e : s.size = 24
  · exact e
  · rw [if_pos e] at h; simp at h

theorem dec_facts (s : ByteArray) (h : decE s = 0) : byteAt s 0 = 165 ∧ s.data.toList.drop 18 = Crc.lowL (Crc.sum (s.data.toList.take 18)) ++ [90, 60] ∧ 1 ≤ (byteAt s 1).toNat ∧ (byteAt s 1).toNat ≤ 3
    ∧ dec s = ((byteAt s 1).toNat, getN (s.extract 2 10), getN (s.extract 10 18), 0) := by
  have hs := dec_size s h
  have hl : s.data.toList.length = 24 := by simpa using hs
  have hr := range18 s hs
  unfold decE at h
  revert h
  unfold dec
  rw [if_neg (by simp [hs])]
  split
  · simp
  split
  · simp
  rename_i h0
  split
  · simp
  rename_i h1
  split
  · simp
  rename_i h2
  split
  · simp
  rename_i h3
  intro _
  have h1' : Crc.rev32 (BitVec.ofNat 32 (getN (s.extract 18 22))) = Crc.rangeW s 0 18 := Decidable.of_not_not h1
  have h3' : s.extract 22 24 = ⟨#[90, 60]⟩ := Decidable.of_not_not h3
  unfold getN at h1'
  rw [ext_list', hr, check_iff _ (by simp [hl])] at h1'
  have h4 := congrArg (fun x : ByteArray => x.data.toList) h3'
  simp only [ext_list'] at h4
  refine ⟨Decidable.of_not_not h0, ?_, by omega, by omega, rfl⟩
  rw [← h1', ← h4]
  have e : (s.data.toList.drop 22).take (24 - 22) = (s.data.toList.drop 18).drop 4 := by rw [List.drop_drop, List.take_of_length_le (by simp [hl])]
  rw [e]
  exact (List.take_append_drop 4 _).symm

theorem take_two : ∀ (L : List UInt8), L.length = 24 → L.take 2 = [L.getD 0 0, L.getD 1 0]
  | [], h => by simp at h
  | [a], h => by simp at h
  | a :: b :: l, _ => rfl

theorem enc_dec (s : ByteArray) (h : decE s = 0) : encB (decK s : Int) (decN s) (decD s) = s := by
  have hs := dec_size s h
  have hl : s.data.toList.length = 24 := by simpa using hs
  obtain ⟨h0, h1, h2, h3, hd⟩ := dec_facts s h
  have eK : decK s = (byteAt s 1).toNat := by unfold decK; rw [hd]
  have eN : decN s = getN (s.extract 2 10) := by unfold decN; rw [hd]
  have eD : decD s = getN (s.extract 10 18) := by unfold decD; rw [hd]
  have e2 : putL (getN (s.extract 2 10)) 8 = (s.data.toList.drop 2).take 8 := by
    refine getL_inj _ _ (by simp [putL_length, hl]) ?_
    have hz := getL_lt (s.extract 2 10).data.toList
    have hz2 : (s.extract 2 10).data.toList.length = 8 := by rw [ext_list']; simp [hl]
    rw [hz2] at hz
    rw [getL_putL, getN, Nat.mod_eq_of_lt hz, ext_list']
  have e3 : putL (getN (s.extract 10 18)) 8 = (s.data.toList.drop 10).take 8 := by
    refine getL_inj _ _ (by simp [putL_length, hl]) ?_
    have hz := getL_lt (s.extract 10 18).data.toList
    have hz2 : (s.extract 10 18).data.toList.length = 8 := by rw [ext_list']; simp [hl]
    rw [hz2] at hz
    rw [getL_putL, getN, Nat.mod_eq_of_lt hz, ext_list']
  have hk : kindB ((byteAt s 1).toNat : Int) = byteAt s 1 := by
    apply UInt8.toNat_inj.1
    have := kindB_int ((byteAt s 1).toNat : Int)
    have := (byteAt s 1).toNat_lt
    omega
  have hh : headL (decK s : Int) (decN s) (decD s) = s.data.toList.take 18 := by
    unfold headL
    rw [eK, eN, eD, e2, e3, hk, ← h0]
    have q1 : s.data.toList.take 18 = s.data.toList.take 10 ++ (s.data.toList.drop 10).take 8 := List.take_add (i := 10) (j := 8)
    have q2 : s.data.toList.take 10 = s.data.toList.take 2 ++ (s.data.toList.drop 2).take 8 := List.take_add (i := 2) (j := 8)
    have q3 : s.data.toList.take 2 = [byteAt s 0, byteAt s 1] := take_two _ hl
    rw [q1, q2, q3]
  apply bytes_list
  rw [enc_list]
  have hsum : Crc.sumS (headB (decK s : Int) (decN s) (decD s)) = Crc.sum (s.data.toList.take 18) := by
    unfold Crc.sumS headB; rw [← hh]
  rw [hsum, hh, List.append_assoc, ← h1]
  exact List.take_append_drop 18 _
end Go.Proofs.Ytclhdgolcaacbaa
