/- dogwatchref07.Body, Encode. -/
import Derived.Test.YtclhdgolcaacbaaRefRec
import Derived.Test.YtclhdgolcaacbaaRefPut
import Derived.Test.YtclhdgolcaacbaaWild
namespace Go.Proofs.Ytclhdgolcaacbaa
open Go.RowKit
set_option linter.unusedVariables false
set_option linter.unusedSimpArgs false

theorem row_new (k : Int) (W : World) : Row (W.alloc (.cells #[.int .u8 165, .int .u8 (IntKind.u8.wrap k)] 5)) W.heap.size [165, kindB k] := by
  have hb := Blk.new W 5 #[.int .u8 165, .int .u8 (IntKind.u8.wrap k)]
  intro j hj
  refine ⟨?_, hb.frozen j⟩
  rw [hb.cell j]
  match j, hj with
  | 0, _ => rfl
  | 1, _ => simp [kindB_int, IntKind.wrap_u8]

theorem row_conv {k : Int} {W : World} {B : Nat} (h : Row W B [165, kindB k]) : (convert 41 9 (.slice (some ⟨B, 0, none⟩) 2 2)).run Try.prog W = .ok (.string ⟨#[165, kindB k]⟩) W :=
  conv_cells W B 0 2 [165, kindB k] (by intro j hj; rw [Nat.zero_add]; exact (h j hj).1)

theorem row_lift {k : Int} {W W' : World} {B : Nat} (hb : Below W.heap.size W W') (h : Row W B [165, kindB k]) : Row W' B [165, kindB k] :=
  h.below hb (World.block_lt_of_cell? _ _ (h 0 (by simp)).1)
theorem head_eq (k : Int) (n d : Nat) : (⟨#[165, kindB k]⟩ : ByteArray) ++ putB n 8 ++ putB d 8 = headB k n d := by
  apply ByteArray.ext
  apply Array.ext'
  rw [ByteArray.data_append, ByteArray.data_append]
  simp [headB, headL, putB]
theorem body_low (k : Int) (n d : Nat) : bodyB k n d = headB k n d ++ lowB (Crc.sumS (headB k n d)) := by
  apply ByteArray.ext
  apply Array.ext'
  rw [ByteArray.data_append]
  simp [bodyB, headB, lowB]
theorem cells_down {W W' : World} {p : Addr} {x : Value} (hb : Below W.heap.size W W') (h : W.cell? p = some x) : W'.cell? p = some x :=
  (hb.cell (p := p) (World.block_lt_of_cell? W p h)).trans h

theorem cells_all {W W' : World} (hb : Below W.heap.size W W') : ∀ b o, b < W.heap.size → W'.cell? ⟨b, o, none⟩ = W.cell? ⟨b, o, none⟩ := fun b o h => hb.cell (p := ⟨b, o, none⟩) h

set_option maxHeartbeats 8000000 in
theorem rBody_any (k : Int) (n d : Nat) (hk : (Lit.int .i64 k).wf = true) (hn : n < 18446744073709551616) (hd : d < 18446744073709551616) (w : World) :
    Calls Try.prog 11 #[recV k n d] w fun e w' => e = .returned (.string (bodyB k n d)) ∧ Below w.heap.size w w' := by
  have x1 := Blk.new w 25 #[.int .i64 k, .int .u64 (n : Int), .int .u64 (d : Int)]
  have B0 : Below w.heap.size w (w.alloc (.cells #[.int .i64 k, .int .u64 (n : Int), .int .u64 (d : Int)] 25)) := (Below.refl _ w).alloc (Nat.le_refl _) _
  have hz : w.heap.size < (w.alloc (.cells #[.int .i64 k, .int .u64 (n : Int), .int .u64 (d : Int)] 25)).heap.size := by simp
  go_enter Try.func11, Try.ntmps11
  go_wp2_with fail
  generalize w.alloc (.cells #[.int .i64 k, .int .u64 (n : Int), .int .u64 (d : Int)] 25) = W0 at *
  have r0 := x1.cell 0
  have r1 := x1.cell 1
  have r2 := x1.cell 2
  simp at r0 r1 r2
  have hz2 : (⟨#[165, kindB k]⟩ : ByteArray).size = 2 := rfl
  have hzn := putB_size n 8
  have hzd := putB_size d 8
  have hP : ∀ (m : Nat) (hm : m < 18446744073709551616) W, Calls Try.prog 25 #[.int .u64 (m : Int), .int .i64 8] W fun e w' => e = .returned (.string (putB m 8)) ∧ Below W.heap.size W w' := fun m hm W => rPut8 m hm W
  refine wp_region_wild W0.heap.size 14 0 3 [true, true, true, false, false, true, true, true, false, true, true, true, false, false] [false, false, false, false, true, false, false, false, true, false, false, false, true, true]
    #[true, true, true, false, false, true, true, true, false, true, true, true, false, false] #[true, true, true, true, true, true, true, true, true, true, true, true, true, true]
    (fun v w' => ∃ p, v = .slice (some ⟨p, 0, none⟩) 2 2 ∧ Row w' p [165, kindB k]) (by kernel_rfl) (by kernel_rfl) rfl (Nat.le_refl _) rfl ?_ (by kernel_rfl) ?_
  case refine_1 => rintro v w1 w2 ⟨p, rfl, hR⟩ hb; exact ⟨p, rfl, row_lift hb hR⟩
  apply Exists.intro
  refine ⟨?_, ?_, ?_⟩
  case refine_1 =>
    intro X hX hNE
    have c0 : ∀ m : CalmX W0.heap.size W0 X, m.val.cell? ⟨w.heap.size, 0, none⟩ = some (.int .i64 k) := fun m => (m.below.cell (p := ⟨w.heap.size, 0, none⟩) x1.lt).trans r0
    have c1 : ∀ m : CalmX W0.heap.size W0 X, m.val.cell? ⟨w.heap.size, 1, none⟩ = some (.int .u64 (n : Int)) := fun m => (m.below.cell (p := ⟨w.heap.size, 1, none⟩) x1.lt).trans r1
    have c2 : ∀ m : CalmX W0.heap.size W0 X, m.val.cell? ⟨w.heap.size, 2, none⟩ = some (.int .u64 (d : Int)) := fun m => (m.below.cell (p := ⟨w.heap.size, 2, none⟩) x1.lt).trans r2
    simp only [keepM]
    repeat (go_big_quiet_step ((with_reducible refine calmX_of hX (Nat.le_refl _) (hP _ (by assumption) _))))
    exact wpQuiet_nil rfl
  case refine_2 =>
    refine ⟨rfl, ?_⟩
    intro w1 hb
    refine ⟨.slice (some ⟨w1.heap.size, 0, none⟩) 2 2, w1.alloc (.cells #[.int .u8 165, .int .u8 (IntKind.u8.wrap k)] 5), ?_, (Below.refl _ _).alloc (Nat.le_refl _) _, ⟨_, rfl, row_new k w1⟩⟩
    go_simp
    rw [IntKind.wrap_u8]
  case refine_3 =>
    rintro v hNE
    have hNE0 := hNE
    obtain ⟨⟨wv, _, p, rfl, _⟩⟩ := hNE
    have eC : (fun w' : World => ∃ q, Value.slice (some ⟨p, 0, none⟩) 2 2 = .slice (some ⟨q, 0, none⟩) 2 2 ∧ Row w' q [165, kindB k]) = fun w' => Row w' p [165, kindB k] := by
      funext w'
      exact propext ⟨fun ⟨q, e, h⟩ => by cases e; exact h, fun h => ⟨p, rfl, h⟩⟩
    rw [eC] at hNE0 ⊢
    have hc : ∀ m : CalmX W0.heap.size W0 (fun w' => Row w' p [165, kindB k]), (convert 41 9 (.slice (some ⟨p, 0, none⟩) 2 2)).run Try.prog m.val = .ok (.string ⟨#[165, kindB k]⟩) m.val := fun m => row_conv m.has
    generalize hX0 : (⟨#[165, kindB k]⟩ : ByteArray) = X0 at hc hz2
    have HX0 := Lib.hid hX0
    have f1 : (9223372036854775807 < X0.size + (putB n 8).size) = False := by rw [hz2, hzn]; simp
    have f2 : (9223372036854775807 < X0.size + (putB n 8).size + (putB d 8).size) = False := by rw [hz2, hzn, hzd]; simp
    clear hX0
    clear hz2 hzn hzd
    simp only [keepM, Act.put, List.setIfInBounds_toArray, List.set_cons_succ, List.set_cons_zero]
    repeat (go_big_quiet_step (fail))
    refine wpQuiet_nil ?_
    rintro w2 ⟨⟨w3, b3, _⟩, rfl⟩
    refine wpAny_done (by kernel_rfl) ?_ _
    go_simp
    have hH : X0 ++ putB n 8 ++ putB d 8 = headB k n d := by rw [← HX0.out]; exact head_eq k n d
    rw [hH]
    have hsz := headB_size k n d
    have hBe := Lib.hid (body_low k n d)
    have B2 := bthen B0 b3
    clear hH f1 f2 hc
    have hS := Crc.rSum_any (headB k n d) (by rw [hsz]; unfold maxLen; omega)
    have hL := rlow_any (Crc.sumS (headB k n d))
    have hlz : (lowB (Crc.sumS (headB k n d))).size ≤ 4 := by show ((Crc.lowL (Crc.sumS (headB k n d))).toArray).size ≤ 4; simp [Crc.lowL]
    have hsz2 : (headB k n d).size ≤ 18 := by omega
    clear hsz
    generalize lowB (Crc.sumS (headB k n d)) = Y at *
    generalize Crc.sumS (headB k n d) = C at *
    generalize headB k n d = H at *
    go_wp2_with (first | (with_reducible refine (hS _).mono ?_; rintro e w5 ⟨rfl, rfl⟩) | (with_reducible refine (hL _).mono ?_; rintro e w6 ⟨rfl, b6⟩))
    go_ret
    exact ⟨by rw [hBe.out]; rfl, bthen B2 b6⟩

/-- dogwatchref07.Encode -/
theorem rEncode_any (k : Int) (n d : Nat) (hk : (Lit.int .i64 k).wf = true) (hn : n < 18446744073709551616) (hd : d < 18446744073709551616) (w : World) :
    Calls Try.prog 13 #[recV k n d] w fun e w' => e = .returned (.string (encB k n d)) ∧ Below w.heap.size w w' := by
  have hB := rBody_any k n d hk hn hd
  have hz := bodyB_size k n d
  have hz2 : (bodyB k n d).size ≤ 22 := by omega
  have HE := Lib.hid (show encB k n d = bodyB k n d ++ ⟨#[90, 60]⟩ from rfl)
  clear hz
  generalize bodyB k n d = Y at *
  go_enter Try.func13, Try.ntmps13
  go_wp2_with (first | (with_reducible refine (hB _).mono ?_; rintro e w5 ⟨rfl, b5⟩) | (with_reducible refine (rMark_any _).mono ?_; rintro e w6 ⟨rfl, b6⟩))
  go_ret
  exact ⟨by rw [HE.out]; rfl, bthen (bthen ((Below.refl _ w).alloc (Nat.le_refl _) _) b5) b6⟩
end Go.Proofs.Ytclhdgolcaacbaa
