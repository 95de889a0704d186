/- The walk of the law FlashKeeps. -/
import Derived.Test.YtcpcceeggjjifaaFlashA
import Derived.Test.YtcpcceeggjjifaaFlashEq
import Derived.Test.YtcpcceeggjjifaaRef01
namespace Go.Proofs.Ytcpcceeggjjifaa
open Go.RowKit
set_option linter.unusedVariables false
set_option linter.unusedSimpArgs false

theorem pre_ext (X Y : ByteArray) (t : Nat) (h1 : X.size = t) : (X ++ Y).extract 0 t = X := by
  have e1 : X.data.toList.length = t := by simpa using h1
  apply ByteArray.ext
  apply Array.ext'
  rw [ByteArray.data_extract, ByteArray.data_append, Array.toList_extract, Array.toList_append, List.extract_eq_take_drop, List.drop_zero, Nat.sub_zero, List.take_left' e1]
theorem post_ext (X Y : ByteArray) (t : Nat) (h1 : X.size = t) : (X ++ Y).extract t (X ++ Y).size = Y := by
  have e1 : X.data.toList.length = t := by simpa using h1
  have e2 : Y.data.toList.length = Y.size := by simp
  apply ByteArray.ext
  apply Array.ext'
  rw [ByteArray.data_extract, ByteArray.data_append, Array.toList_extract, Array.toList_append, List.extract_eq_take_drop, List.drop_left' e1, List.take_of_length_le (by rw [e2, ByteArray.size_append]; omega)]

theorem keeps_ok (s d : ByteArray) (t : Nat) (h : t + d.size ≤ s.size) : (progB s t d).size = s.size ∧ (progB s t d).extract 0 t = s.extract 0 t ∧ (progB s t d).extract (t + d.size) (progB s t d).size = s.extract (t + d.size) s.size ∧
    (∀ j, j < (progB s t d).size → (byteOr (progB s t d) 0 j &&& ~~~(byteOr s 255 j)) = 0) ∧ andB ((progB s t d).extract t (t + d.size)) d = (progB s t d).extract t (t + d.size) := by
  have z1 : (s.extract 0 t).size = t := by rw [ByteArray.size_extract]; omega
  have z2 : (andB (s.extract t (t + d.size)) d).size = d.size := by rw [andB_size, ByteArray.size_extract]; omega
  refine ⟨progB_size s d t h, ?_, ?_, ?_, ?_⟩
  · unfold progB; rw [ByteArray.append_assoc, pre_ext _ _ _ z1]
  · unfold progB; rw [post_ext _ _ _ (by rw [ByteArray.size_append, z1, z2])]
  · intro j hj
    rw [progB_size s d t h] at hj
    rw [progB_byte s d t h j hj, byteOr_any hj 255 0]
    apply u8_ext
    intro i hi
    split <;> simp only [UInt8.toBitVec_and, UInt8.toBitVec_not, BitVec.getLsbD_and, BitVec.getLsbD_not, hi, decide_true, Bool.true_and] <;> cases (byteOr s 0 j).toBitVec.getLsbD i <;> simp
  · rw [progB_mid s d t h]
    apply bytes_eq (by rw [andB_size])
    intro j hj
    rw [andB_size, andB_size] at hj
    rw [andB_byte _ _ _ _ (by rw [andB_size]; exact hj), andB_byte _ _ _ _ hj, law_again]

theorem keeps_out (f : Fl) (ha : f.a.size ≤ maxLen) (hb : f.b.size ≤ maxLen) (k t : Int) (d : ByteArray) (hd : d.size ≤ maxLen)
    (h : (500 < f.a.size ∨ 500 < f.b.size) ∨ ((f.a.size ≤ 500 ∧ f.b.size ≤ 500) ∧ 500 < d.size)) (w : World) :
    Calls Try.prog 4 #[flV f, .int .i64 k, .int .i64 t, .string d] w fun e w' => e = .returned (.bool true) ∧ Below w.heap.size w w' := by
  unfold maxLen at hd
  rcases h with h | ⟨⟨g1, g2⟩, h⟩
  · go_enter Try.func4, Try.ntmps4
    go_wp2_with (first | (with_reducible refine (big_yes f h ha hb _).mono ?_; rintro e w1 ⟨rfl, b1⟩) | (with_reducible refine (shown_any _).mono ?_; rintro e w2 ⟨rfl, b2⟩))
    go_ret
    exact ⟨rfl, bthen (bthen ((Below.refl _ w).alloc (Nat.le_refl _) _) b1) b2⟩
  · go_enter Try.func4, Try.ntmps4
    go_wp2_with (first | (with_reducible refine (big_no f g1 g2 _).mono ?_; rintro e w1 ⟨rfl, b1⟩) | (with_reducible refine (shown_any _).mono ?_; rintro e w2 ⟨rfl, b2⟩))
    go_ret
    exact ⟨rfl, bthen (bthen ((Below.refl _ w).alloc (Nat.le_refl _) _) b1) b2⟩

set_option maxHeartbeats 4000000 in
theorem keeps_bad (f : Fl) (hf : f.ok) (k t : Int) (d : ByteArray) (hk : (Lit.int .i64 k).wf = true) (wt : (Lit.int .i64 t).wf = true) (hd : d.size ≤ 500) (hE : pgE f k t d ≠ 0) (w : World) :
    Calls Try.prog 4 #[flV f, .int .i64 k, .int .i64 t, .string d] w fun e w' => e = .returned (.bool true) ∧ Below w.heap.size w w' := by
  have h1 := Program_any f hf k t d hk wt (by unfold maxLen; omega)
  rw [pgF_bad hE] at h1
  have hG : (pgE f k t d != 0) = true := by simpa using hE
  clear hE
  generalize pgE f k t d = E at *
  have k0 := Blk.new w 28 (flashC f.a f.b f.x f.y f.l)
  have B0 : Below w.heap.size w (w.alloc (.cells (flashC f.a f.b f.x f.y f.l) 28)) := (Below.refl _ w).alloc (Nat.le_refl _) _
  go_enter Try.func4, Try.ntmps4
  go_wp2_with (with_reducible refine (big_no f hf.ha hf.hb _).mono ?_)
  rintro e w1 ⟨rfl, b1⟩
  have k1 := k0.below b1 k0.lt
  have B1 := bthen B0 b1
  clear k0 b1 B0
  go_wp2_with (with_reducible refine (shown_any _).mono ?_)
  rintro e w2 ⟨rfl, b2⟩
  have kf := k1.below b2 k1.lt
  have B := bthen B1 b2
  clear k1 b2 B1
  have r_0 := kf.cell 0
  have r_1 := kf.cell 1
  have r_2 := kf.cell 2
  have r_3 := kf.cell 3
  have r_4 := kf.cell 4
  simp [flashC] at r_0 r_1 r_2 r_3 r_4
  go_wp2_with (with_reducible refine (h1 _).mono ?_)
  rintro e w3 ⟨rfl, b⟩
  have kf3 := (kf.below b kf.lt).alloc (.cells (flashC f.a f.b f.x f.y f.l) 28)
  have kx3 := Blk.new w3 28 (flashC f.a f.b f.x f.y f.l)
  have B3 := (bthen B b).alloc (bthen B b).size (.cells (flashC f.a f.b f.x f.y f.l) 28)
  clear r_0 r_1 r_2 r_3 r_4
  clear kf B b
  have r_0 := kf3.cell 0
  have r_1 := kf3.cell 1
  have r_2 := kf3.cell 2
  have r_3 := kf3.cell 3
  have r_4 := kf3.cell 4
  simp [flashC] at r_0 r_1 r_2 r_3 r_4
  have s_0 := kx3.cell 0
  have s_1 := kx3.cell 1
  have s_2 := kx3.cell 2
  have s_3 := kx3.cell 3
  have s_4 := kx3.cell 4
  simp [flashC] at s_0 s_1 s_2 s_3 s_4
  have q1 := eq_strs f.a f.b f.a f.b
  have q2 := eq_ints f.x f.y f.x f.y
  simp at q1 q2
  go_wp2
  go_ret
  exact ⟨rfl, B3⟩

set_option maxRecDepth 100000 in
set_option maxHeartbeats 4000000 in
theorem keeps_0 (f : Fl) (hf : f.ok) (t : Nat) (d : ByteArray) (wt : (Lit.int .i64 (t : Int)).wf = true) (hd : d.size ≤ 500) (hE : pgE f 0 t d = 0) (w : World) :
    Calls Try.prog 4 #[flV f, .int .i64 0, .int .i64 (t : Int), .string d] w fun e w' => e = .returned (.bool true) ∧ Below w.heap.size w w' := by
  have h1 := Program_any f hf 0 t d (by decide) wt (by unfold maxLen; omega)
  have g3 := (pgE_of hE).2.2.1
  have hs := hf.bank 0
  have hF : pgF f 0 t d = { f with a := progB f.a t d } := if_pos hE
  rw [hF, hE] at h1
  have g3' : t + d.size ≤ f.a.size := by simpa [Fl.bank] using (by omega : t + d.size ≤ (f.bank 0).size)
  obtain ⟨k1, k2, k3, k4, k5⟩ := keeps_ok f.a d t g3'
  have hB := rBits_none (progB f.a t d) f.a (by rw [k1]; simpa [Fl.bank] using hs) k4
  have hA := rAnd_any ((progB f.a t d).extract t (t + d.size)) d (by rw [ByteArray.size_extract]; omega)
  rw [k5] at hA
  have hs3 : f.a.size ≤ 500 := hs
  rw [k1] at k3
  have h0 : (0 : Int) ≤ (t : Int) := by omega
  have h2 : ((t : Int) + (d.size : Int)).toNat = t + d.size := by omega
  clear hF hE k4 k5 g3
  obtain ⟨P, hP⟩ : ∃ P, P = progB f.a t d := ⟨_, rfl⟩
  rw [← hP] at hB hA k1 k2 k3
  dsimp only [flV] at h1
  simp only [← hP] at h1
  have HK1 := Lib.hid k1
  have HK2 := Lib.hid k2
  have HK3 := Lib.hid k3
  have HH2 := Lib.hid h2
  clear hP k1 k2 k3 h2
  have k0 := Blk.new w 28 (flashC f.a f.b f.x f.y f.l)
  have B0 : Below w.heap.size w (w.alloc (.cells (flashC f.a f.b f.x f.y f.l) 28)) := (Below.refl _ w).alloc (Nat.le_refl _) _
  go_enter Try.func4, Try.ntmps4
  go_wp2_with (with_reducible refine (big_no f hf.ha hf.hb _).mono ?_)
  rintro e w1 ⟨rfl, b1⟩
  have k1 := k0.below b1 k0.lt
  have B1 := bthen B0 b1
  clear k0 b1 B0
  go_wp2_with (with_reducible refine (shown_any _).mono ?_)
  rintro e w2 ⟨rfl, b2⟩
  have kf := k1.below b2 k1.lt
  have B := bthen B1 b2
  clear k1 b2 B1
  have r_0 := kf.cell 0
  have r_1 := kf.cell 1
  have r_2 := kf.cell 2
  have r_3 := kf.cell 3
  have r_4 := kf.cell 4
  simp [flashC] at r_0 r_1 r_2 r_3 r_4
  go_wp2_with (with_reducible refine (h1 _).mono ?_)
  rintro e w3 ⟨rfl, b⟩
  have kf3 := (kf.below b kf.lt).alloc (.cells (flashC P f.b f.x f.y f.l) 28)
  have kx3 := Blk.new w3 28 (flashC P f.b f.x f.y f.l)
  have B3 := (bthen B b).alloc (bthen B b).size (.cells (flashC P f.b f.x f.y f.l) 28)
  clear r_0 r_1 r_2 r_3 r_4
  clear kf B b
  have r_0 := kf3.cell 0
  have r_1 := kf3.cell 1
  have r_2 := kf3.cell 2
  have r_3 := kf3.cell 3
  have r_4 := kf3.cell 4
  simp [flashC] at r_0 r_1 r_2 r_3 r_4
  have s_0 := kx3.cell 0
  have s_1 := kx3.cell 1
  have s_2 := kx3.cell 2
  have s_3 := kx3.cell 3
  have s_4 := kx3.cell 4
  simp [flashC] at s_0 s_1 s_2 s_3 s_4
  have k1 := HK1.out
  have k2 := HK2.out
  have k3 := HK3.out
  have h2 := HH2.out
  clear HK1 HK2 HK3 HH2
  go_wp2_with fail
  clear r_0 r_1 r_2 r_3 r_4 s_0 s_1 s_2 s_3 s_4
  generalize w3.alloc (.cells (flashC P f.b f.x f.y f.l) 28) = w4 at *
  have r0 : ∀ m : CalmW w4.heap.size w4, m.val.cell? ⟨w.heap.size, 0, none⟩ = some (.string f.a) := fun m => (kf3.below m.below kf3.lt).cell 0
  have r1 : ∀ m : CalmW w4.heap.size w4, m.val.cell? ⟨w.heap.size, 1, none⟩ = some (.string f.b) := fun m => (kf3.below m.below kf3.lt).cell 1
  have r2 : ∀ m : CalmW w4.heap.size w4, m.val.cell? ⟨w.heap.size, 2, none⟩ = some (.int .i64 f.x) := fun m => (kf3.below m.below kf3.lt).cell 2
  have r3 : ∀ m : CalmW w4.heap.size w4, m.val.cell? ⟨w.heap.size, 3, none⟩ = some (.int .i64 f.y) := fun m => (kf3.below m.below kf3.lt).cell 3
  have r4 : ∀ m : CalmW w4.heap.size w4, m.val.cell? ⟨w.heap.size, 4, none⟩ = some (.int .i64 f.l) := fun m => (kf3.below m.below kf3.lt).cell 4
  have s0 : ∀ m : CalmW w4.heap.size w4, m.val.cell? ⟨w3.heap.size, 0, none⟩ = some (.string P) := fun m => (kx3.below m.below kx3.lt).cell 0
  have s1 : ∀ m : CalmW w4.heap.size w4, m.val.cell? ⟨w3.heap.size, 1, none⟩ = some (.string f.b) := fun m => (kx3.below m.below kx3.lt).cell 1
  have s2 : ∀ m : CalmW w4.heap.size w4, m.val.cell? ⟨w3.heap.size, 2, none⟩ = some (.int .i64 f.x) := fun m => (kx3.below m.below kx3.lt).cell 2
  have s3 : ∀ m : CalmW w4.heap.size w4, m.val.cell? ⟨w3.heap.size, 3, none⟩ = some (.int .i64 f.y) := fun m => (kx3.below m.below kx3.lt).cell 3
  have s4 : ∀ m : CalmW w4.heap.size w4, m.val.cell? ⟨w3.heap.size, 4, none⟩ = some (.int .i64 f.l) := fun m => (kx3.below m.below kx3.lt).cell 4
  have q1 := eq_ints_top f.x f.y f.x f.y
  simp at q1
  have g1 : (t : Int) ≤ (P.size : Int) := by omega
  have g2 : (t : Int) + (d.size : Int) ≤ (P.size : Int) := by omega
  have g4 : (t : Int) ≤ (f.a.size : Int) := by omega
  have g5 : (t : Int) + (d.size : Int) ≤ (f.a.size : Int) := by omega
  have g6 : (t : Int) ≤ (t : Int) + (d.size : Int) := by omega
  have g7 : (0 : Int) ≤ (t : Int) + (d.size : Int) := by omega
  have g8 : IntKind.i64.wrap ((t : Int) + (d.size : Int)) = (t : Int) + (d.size : Int) := IntWalk.i64_in _ (by omega)
  refine wp_region_calm (w4.heap.size) (by kernel_rfl) (by kernel_rfl) ?_
  dsimp only [List.append]
  repeat (go_big_quiet_step ((first | (with_reducible refine calm_same (hB _)) | (with_reducible refine calm_of (Nat.le_refl _) (hA _)))))
  refine wpQuiet_nil ?_
  intro _ hw'
  obtain ⟨⟨W5, hW5⟩, hw''⟩ := hw'
  subst hw''
  go_wp2
  go_ret
  exact ⟨rfl, B3.trans (hW5.mono B3.size)⟩
set_option maxRecDepth 100000 in
set_option maxHeartbeats 4000000 in
theorem keeps_1 (f : Fl) (hf : f.ok) (t : Nat) (d : ByteArray) (wt : (Lit.int .i64 (t : Int)).wf = true) (hd : d.size ≤ 500) (hE : pgE f 1 t d = 0) (w : World) :
    Calls Try.prog 4 #[flV f, .int .i64 1, .int .i64 (t : Int), .string d] w fun e w' => e = .returned (.bool true) ∧ Below w.heap.size w w' := by
  have h1 := Program_any f hf 1 t d (by decide) wt (by unfold maxLen; omega)
  have g3 := (pgE_of hE).2.2.1
  have hs := hf.bank 1
  have hF : pgF f 1 t d = { f with b := progB f.b t d } := if_pos hE
  rw [hF, hE] at h1
  have g3' : t + d.size ≤ f.b.size := by simpa [Fl.bank] using (by omega : t + d.size ≤ (f.bank 1).size)
  obtain ⟨k1, k2, k3, k4, k5⟩ := keeps_ok f.b d t g3'
  have hB := rBits_none (progB f.b t d) f.b (by rw [k1]; simpa [Fl.bank] using hs) k4
  have hA := rAnd_any ((progB f.b t d).extract t (t + d.size)) d (by rw [ByteArray.size_extract]; omega)
  rw [k5] at hA
  have hs3 : f.b.size ≤ 500 := hs
  rw [k1] at k3
  have h0 : (0 : Int) ≤ (t : Int) := by omega
  have h2 : ((t : Int) + (d.size : Int)).toNat = t + d.size := by omega
  clear hF hE k4 k5 g3
  obtain ⟨P, hP⟩ : ∃ P, P = progB f.b t d := ⟨_, rfl⟩
  rw [← hP] at hB hA k1 k2 k3
  dsimp only [flV] at h1
  simp only [← hP] at h1
  have HK1 := Lib.hid k1
  have HK2 := Lib.hid k2
  have HK3 := Lib.hid k3
  have HH2 := Lib.hid h2
  clear hP k1 k2 k3 h2
  have k0 := Blk.new w 28 (flashC f.a f.b f.x f.y f.l)
  have B0 : Below w.heap.size w (w.alloc (.cells (flashC f.a f.b f.x f.y f.l) 28)) := (Below.refl _ w).alloc (Nat.le_refl _) _
  go_enter Try.func4, Try.ntmps4
  go_wp2_with (with_reducible refine (big_no f hf.ha hf.hb _).mono ?_)
  rintro e w1 ⟨rfl, b1⟩
  have k1 := k0.below b1 k0.lt
  have B1 := bthen B0 b1
  clear k0 b1 B0
  go_wp2_with (with_reducible refine (shown_any _).mono ?_)
  rintro e w2 ⟨rfl, b2⟩
  have kf := k1.below b2 k1.lt
  have B := bthen B1 b2
  clear k1 b2 B1
  have r_0 := kf.cell 0
  have r_1 := kf.cell 1
  have r_2 := kf.cell 2
  have r_3 := kf.cell 3
  have r_4 := kf.cell 4
  simp [flashC] at r_0 r_1 r_2 r_3 r_4
  go_wp2_with (with_reducible refine (h1 _).mono ?_)
  rintro e w3 ⟨rfl, b⟩
  have kf3 := (kf.below b kf.lt).alloc (.cells (flashC f.a P f.x f.y f.l) 28)
  have kx3 := Blk.new w3 28 (flashC f.a P f.x f.y f.l)
  have B3 := (bthen B b).alloc (bthen B b).size (.cells (flashC f.a P f.x f.y f.l) 28)
  clear r_0 r_1 r_2 r_3 r_4
  clear kf B b
  have r_0 := kf3.cell 0
  have r_1 := kf3.cell 1
  have r_2 := kf3.cell 2
  have r_3 := kf3.cell 3
  have r_4 := kf3.cell 4
  simp [flashC] at r_0 r_1 r_2 r_3 r_4
  have s_0 := kx3.cell 0
  have s_1 := kx3.cell 1
  have s_2 := kx3.cell 2
  have s_3 := kx3.cell 3
  have s_4 := kx3.cell 4
  simp [flashC] at s_0 s_1 s_2 s_3 s_4
  have k1 := HK1.out
  have k2 := HK2.out
  have k3 := HK3.out
  have h2 := HH2.out
  clear HK1 HK2 HK3 HH2
  go_wp2_with fail
  clear r_0 r_1 r_2 r_3 r_4 s_0 s_1 s_2 s_3 s_4
  generalize w3.alloc (.cells (flashC f.a P f.x f.y f.l) 28) = w4 at *
  have r0 : ∀ m : CalmW w4.heap.size w4, m.val.cell? ⟨w.heap.size, 0, none⟩ = some (.string f.a) := fun m => (kf3.below m.below kf3.lt).cell 0
  have r1 : ∀ m : CalmW w4.heap.size w4, m.val.cell? ⟨w.heap.size, 1, none⟩ = some (.string f.b) := fun m => (kf3.below m.below kf3.lt).cell 1
  have r2 : ∀ m : CalmW w4.heap.size w4, m.val.cell? ⟨w.heap.size, 2, none⟩ = some (.int .i64 f.x) := fun m => (kf3.below m.below kf3.lt).cell 2
  have r3 : ∀ m : CalmW w4.heap.size w4, m.val.cell? ⟨w.heap.size, 3, none⟩ = some (.int .i64 f.y) := fun m => (kf3.below m.below kf3.lt).cell 3
  have r4 : ∀ m : CalmW w4.heap.size w4, m.val.cell? ⟨w.heap.size, 4, none⟩ = some (.int .i64 f.l) := fun m => (kf3.below m.below kf3.lt).cell 4
  have s0 : ∀ m : CalmW w4.heap.size w4, m.val.cell? ⟨w3.heap.size, 0, none⟩ = some (.string f.a) := fun m => (kx3.below m.below kx3.lt).cell 0
  have s1 : ∀ m : CalmW w4.heap.size w4, m.val.cell? ⟨w3.heap.size, 1, none⟩ = some (.string P) := fun m => (kx3.below m.below kx3.lt).cell 1
  have s2 : ∀ m : CalmW w4.heap.size w4, m.val.cell? ⟨w3.heap.size, 2, none⟩ = some (.int .i64 f.x) := fun m => (kx3.below m.below kx3.lt).cell 2
  have s3 : ∀ m : CalmW w4.heap.size w4, m.val.cell? ⟨w3.heap.size, 3, none⟩ = some (.int .i64 f.y) := fun m => (kx3.below m.below kx3.lt).cell 3
  have s4 : ∀ m : CalmW w4.heap.size w4, m.val.cell? ⟨w3.heap.size, 4, none⟩ = some (.int .i64 f.l) := fun m => (kx3.below m.below kx3.lt).cell 4
  have q1 := eq_ints_top f.x f.y f.x f.y
  simp at q1
  have g1 : (t : Int) ≤ (P.size : Int) := by omega
  have g2 : (t : Int) + (d.size : Int) ≤ (P.size : Int) := by omega
  have g4 : (t : Int) ≤ (f.b.size : Int) := by omega
  have g5 : (t : Int) + (d.size : Int) ≤ (f.b.size : Int) := by omega
  have g6 : (t : Int) ≤ (t : Int) + (d.size : Int) := by omega
  have g7 : (0 : Int) ≤ (t : Int) + (d.size : Int) := by omega
  have g8 : IntKind.i64.wrap ((t : Int) + (d.size : Int)) = (t : Int) + (d.size : Int) := IntWalk.i64_in _ (by omega)
  refine wp_region_calm (w4.heap.size) (by kernel_rfl) (by kernel_rfl) ?_
  dsimp only [List.append]
  repeat (go_big_quiet_step ((first | (with_reducible refine calm_same (hB _)) | (with_reducible refine calm_of (Nat.le_refl _) (hA _)))))
  refine wpQuiet_nil ?_
  intro _ hw'
  obtain ⟨⟨W5, hW5⟩, hw''⟩ := hw'
  subst hw''
  go_wp2
  go_ret
  exact ⟨rfl, B3.trans (hW5.mono B3.size)⟩

theorem keeps_in (f : Fl) (hf : f.ok) (k t : Int) (d : ByteArray) (hk : (Lit.int .i64 k).wf = true) (wt : (Lit.int .i64 t).wf = true) (hd : d.size ≤ 500) (w : World) :
    Calls Try.prog 4 #[flV f, .int .i64 k, .int .i64 t, .string d] w fun e w' => e = .returned (.bool true) ∧ Below w.heap.size w w' := by
  by_cases hE : pgE f k t d = 0
  · obtain ⟨h, h2, _⟩ := pgE_of hE
    obtain ⟨t, rfl⟩ := Int.eq_ofNat_of_zero_le h2
    rcases h with rfl | rfl
    · exact keeps_0 f hf t d wt hd hE w
    · exact keeps_1 f hf t d wt hd hE w
  · exact keeps_bad f hf k t d hk wt hd hE w

theorem FlashKeeps_walk (f : Fl) (k t : Int) (d : ByteArray) (wx : (Lit.int .i64 f.x).wf = true) (wy : (Lit.int .i64 f.y).wf = true) (wl : (Lit.int .i64 f.l).wf = true) (wa : f.a.size ≤ maxLen) (wb : f.b.size ≤ maxLen)
    (hk : (Lit.int .i64 k).wf = true) (ht : (Lit.int .i64 t).wf = true) (hd : d.size ≤ maxLen) (w : World) :
    Calls Try.prog 4 #[flV f, .int .i64 k, .int .i64 t, .string d] w fun e w' => e = .returned (.bool true) ∧ Below w.heap.size w w' := by
  by_cases h : (500 < f.a.size ∨ 500 < f.b.size) ∨ ((f.a.size ≤ 500 ∧ f.b.size ≤ 500) ∧ 500 < d.size)
  · exact keeps_out f wa wb k t d hd h w
  · exact keeps_in f ⟨wx, wy, wl, by omega, by omega⟩ k t d hk ht (by omega) w
end Go.Proofs.Ytcpcceeggjjifaa
