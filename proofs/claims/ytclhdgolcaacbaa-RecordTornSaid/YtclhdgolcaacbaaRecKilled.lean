/- The walk of the law RecordKilled. -/
import Derived.Test.YtclhdgolcaacbaaRecApart
namespace Go.Proofs.Ytclhdgolcaacbaa
open Go.RowKit
set_option linter.unusedVariables false
set_option linter.unusedSimpArgs false

/-- 24 bytes whose last two are 0 or 255 -/
def Dead (l : List UInt8) : Prop := l.length = 24 ∧ (l.getD 22 0 = 0 ∨ l.getD 22 0 = 255)
theorem Dead.set {l : List UInt8} (h : Dead l) (j : Nat) : Dead (l.set j 255) := by
  obtain ⟨h1, h2⟩ := h
  refine ⟨by simpa using h1, ?_⟩
  by_cases e : j = 22
  · subst e; right; rw [List.getD_eq_getElem?_getD, List.getElem?_set_self (by omega)]; rfl
  · rw [List.getD_eq_getElem?_getD, List.getElem?_set_ne e, ← List.getD_eq_getElem?_getD]; exact h2
theorem Dead.bad {l : List UInt8} (h : Dead l) : goodB ⟨l.toArray⟩ = false := by
  obtain ⟨h1, h2⟩ := h
  unfold goodB
  rw [decide_eq_false_iff_not]
  intro e
  obtain ⟨_, h3, _⟩ := dec_facts _ e
  have h4 := congrArg (fun x : List UInt8 => x.getD 4 0) h3
  simp only [List.getD_eq_getElem?_getD, List.getElem?_drop] at h4
  rw [List.getElem?_append_right (by rw [low_length]; omega), low_length] at h4
  simp only [List.getD_eq_getElem?_getD] at h2
  rcases h2 with h2 | h2
  · rw [h2] at h4; simp at h4
  · rw [h2] at h4; simp at h4
theorem Dead.start (k : Int) (n d : Nat) : Dead (bodyB k n d ++ ⟨#[0, 0]⟩).data.toList := by
  have hl : (bodyB k n d).data.toList.length = 22 := by simpa using bodyB_size k n d
  have e : (bodyB k n d ++ ⟨#[0, 0]⟩).data.toList = (bodyB k n d).data.toList ++ [0, 0] := by rw [ByteArray.data_append]; simp
  refine ⟨by rw [e, List.length_append, hl]; rfl, .inl ?_⟩
  rw [e, List.getD_eq_getElem?_getD, List.getElem?_append_right (by omega), hl]; rfl

set_option maxHeartbeats 2000000 in
theorem killed (k n d which : Int) (hk : (Lit.int .i64 k).wf = true) (hn : (Lit.int .u64 n).wf = true) (hd : (Lit.int .u64 d).wf = true) (hw : (Lit.int .u32 which).wf = true) (w : World) :
    Calls Try.prog 7 #[.agg #[.int .i64 k, .int .u64 n, .int .u64 d], .int .u32 which] w fun e w' => e = .returned (.bool true) ∧ Below w.heap.size w w' := by
  obtain ⟨n, rfl, hn'⟩ := u64_val n hn
  obtain ⟨d, rfl, hd'⟩ := u64_val d hd
  have B0 : Below w.heap.size w (w.alloc (.cells #[.int .i64 k, .int .u64 (n : Int), .int .u64 (d : Int)] 24)) := (Below.refl _ w).alloc (Nat.le_refl _) _
  have hB : ∀ W, Calls Try.prog 10 #[.agg #[.int .i64 k, .int .u64 (n : Int), .int .u64 (d : Int)]] W fun e w' => e = .returned (.string (bodyB k n d)) ∧ Below W.heap.size W w' := fun W => Body_any k n d hk hn' hd' W
  have hst := Dead.start k n d
  have hz := bodyB_size k n d
  have hcv := fun w : World => run_bytes_of_string (P := Try.prog) w 9 41 5 (bodyB k n d ++ ⟨#[0, 0]⟩) Try.underlying9 Try.underlying41 Try.underlying5
  have hz2 : (bodyB k n d ++ ⟨#[0, 0]⟩).size = 24 := by rw [ByteArray.size_append, hz]; rfl
  go_enter Try.func7, Try.ntmps7
  go_wp2_with (with_reducible refine (hB _).mono ?_)
  rintro e w1 ⟨rfl, b1⟩
  have B1 := bthen B0 b1
  clear b1 B0
  have hr := Row.ofString w1 (bodyB k n d ++ ⟨#[0, 0]⟩) (grownCap w1 (bodyB k n d ++ ⟨#[0, 0]⟩).size 0 5) _ (bytesRow_size (bodyB k n d ++ ⟨#[0, 0]⟩) (grownCap w1 (bodyB k n d ++ ⟨#[0, 0]⟩).size 0 5))
  have hbl := B1.alloc B1.size (.cells (bytesRow (bodyB k n d ++ ⟨#[0, 0]⟩) (grownCap w1 (bodyB k n d ++ ⟨#[0, 0]⟩).size 0 5)) 5 ((bytesRow (bodyB k n d ++ ⟨#[0, 0]⟩) (grownCap w1 (bodyB k n d ++ ⟨#[0, 0]⟩).size 0 5)).size, (bytesRow (bodyB k n d ++ ⟨#[0, 0]⟩) (grownCap w1 (bodyB k n d ++ ⟨#[0, 0]⟩).size 0 5)).size + 1))
  have hsz := B1.size
  go_wp2_with fail
  try rw [hz2] at hr hbl
  try simp only [hz2]
  generalize grownCap w1 24 0 5 = C at *
  go_loopw [6] (fun i wr => ∃ (j : Nat) (l : List UInt8), j ≤ 24 ∧ i = .int .i64 j ∧ Dead l ∧ Row wr w1.heap.size l ∧ Below w.heap.size w wr) (fun i _ => 24 - (intOf i).toNat)
  case atStart => exact ⟨0, _, by omega, rfl, hst, hr, hbl.drew⟩
  case round =>
    obtain ⟨j, l, hj, rfl, hl, hrow, hbr⟩ := hrel
    clear hr hbl hst hcv
    by_cases hlt : j < 24
    · obtain ⟨y, c1⟩ : ∃ y : Int, wr.cell? ⟨w1.heap.size, j, none⟩ = some (.int .u8 y) := ⟨_, (hrow j (by rw [hl.1]; exact hlt)).1⟩
      have f1 := (hrow j (by rw [hl.1]; exact hlt)).2
      have n1 := Lib.hid (hrow.set j 255)
      have n2 := Lib.hid hrow
      have n3 := Lib.hid hl
      clear hrow hl
      go_wp2
      · go_roundw
        case rel => exact ⟨j + 1, l.set j 255, by omega, by go_num, n3.out.set j, n1.out, hbr.setCell (by simp; exact hsz) _⟩
        case measure => simp [intOf]; omega
      · go_roundw
        case rel => exact ⟨j + 1, l, by omega, by go_num, n3.out, n2.out, hbr⟩
        case measure => simp [intOf]; omega
    · have hj2 : j = 24 := by omega
      subst hj2
      obtain ⟨X, hX⟩ : ∃ X : ByteArray, X = ⟨l.toArray⟩ := ⟨_, rfl⟩
      have hcv2 : (convert 41 9 (.slice (some ⟨w1.heap.size, 0, none⟩) 24 C)).run Try.prog wr = .ok (.string X) wr := by
        have hc := conv_cells wr w1.heap.size 0 C l (fun i hi => by rw [Nat.zero_add]; exact (hrow i hi).1)
        rw [hl.1] at hc
        rw [hX]; exact hc
      have hbad : goodB X = false := by rw [hX]; exact hl.bad
      have hXs : X.size ≤ maxLen := by rw [hX]; show l.toArray.size ≤ maxLen; rw [List.size_toArray, hl.1]; decide
      clear hX hl hrow
      go_wp2_with (first | (with_reducible refine (Good_any X hXs _).mono ?_; rintro e w2 ⟨rfl, c2⟩) | (with_reducible refine (shown_any _).mono ?_; rintro e w3 ⟨rfl, c3⟩))
      go_ret
      exact ⟨rfl, bthen hbr (bthen c2 c3)⟩
end Go.Proofs.Ytclhdgolcaacbaa
