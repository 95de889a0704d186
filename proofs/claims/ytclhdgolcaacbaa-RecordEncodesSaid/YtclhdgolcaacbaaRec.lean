/- record.Body, Encode: what they answer. -/
import Derived.Test.YtclhdgolcaacbaaBlank
import Derived.Lib.AppendStr
namespace Go.Proofs.Ytclhdgolcaacbaa
open Go.RowKit
set_option linter.unusedVariables false
set_option linter.unusedSimpArgs false

/-- a record, as a value -/
abbrev recV (k : Int) (n d : Nat) : Value := .agg #[.int .i64 k, .int .u64 (n : Int), .int .u64 (d : Int)]
def kindB (k : Int) : UInt8 := UInt8.ofNat (k % 256).toNat
theorem kindB_int (k : Int) : ((kindB k).toNat : Int) = k % 256 := by
  unfold kindB; simp; omega
/-- the first 18 bytes -/
def headL (k : Int) (n d : Nat) : List UInt8 := [165, kindB k] ++ putL n 8 ++ putL d 8
def headB (k : Int) (n d : Nat) : ByteArray := ⟨(headL k n d).toArray⟩
def bodyB (k : Int) (n d : Nat) : ByteArray := ⟨(headL k n d ++ Crc.lowL (Crc.sumS (headB k n d))).toArray⟩
theorem headB_size (k : Int) (n d : Nat) : (headB k n d).size = 18 := by show (headL k n d).toArray.size = 18; simp [headL, putL_length]
theorem bodyB_size (k : Int) (n d : Nat) : (bodyB k n d).size = 22 := by
  show (headL k n d ++ Crc.lowL (Crc.sumS (headB k n d))).toArray.size = 22; simp [headL, putL_length, Crc.lowL]

theorem bodyB_eq (k : Int) (n d : Nat) : bodyB k n d = headB k n d ++ putB (Crc.rev32 (Crc.sumS (headB k n d))).toNat 4 := by
  unfold bodyB putB
  rw [Crc.putL_rev]
  apply ByteArray.ext
  rw [ByteArray.data_append]
  apply Array.ext'
  simp [headB]

theorem cells_str (s : ByteArray) : Lib.strCells s = bcells s.data.toList := rfl

theorem step_append_str {ops : Array Oper} {rest : List Oper} {o : Oper} {a : Act} {Q : Exit → Act → World → Prop} (w : World) (hgd : o.guard = none) (s x : Operand)
    (hop : o.op = .call { callee := .builtin .append, args := #[s, x], argTypes := #[41, 9] })
    {base : Nat} {v : Value} {l : List UInt8} {t : ByteArray} (hs : a.eval s = v) (hx : a.eval x = .string t) (hown : OwnsB w base v l) (hlen : l.length + t.size ≤ 140737488355328) (hbase : base ≤ w.heap.size)
    (hK : ∀ v' w', OwnsB w' base v' (l ++ t.data.toList) → Below base w w' → wpList Try.prog ops Q rest (a.put o.dst v') w') : wpList Try.prog ops Q (o :: rest) a w := by
  obtain ⟨i0, hi, hz0, hz1, hz2⟩ := info_parts infoB
  refine Lib.wpList_append_own_string (P := Try.prog) w hgd s x 41 9 hop base 5 i0 Try.underlying41 Try.underlying9 hi hz0 hz1 hz2 v l.length (bcells l) hs hown t hx (by unfold maxLen; omega) hlen hbase ?_
  intro v' w' h2 h3 _
  refine hK v' w' ?_ ((Below.refl base w).grown h3 hbase (fun k e => OwnsB.base_le hown k e))
  unfold OwnsB
  have e1 : (l ++ t.data.toList).length = l.length + t.size := by simp
  have e2 : bcells (l ++ t.data.toList) = bcells l ++ Lib.strCells t := by unfold bcells; rw [List.map_append]; rfl
  rw [e1, e2]; exact h2
theorem Put8 (n : Nat) (hn : n < 18446744073709551616) (W : World) : Calls Try.prog 22 #[.int .u64 (n : Int), .int .i64 8] W fun e w' => e = .returned (.string (putB n 8)) ∧ Below W.heap.size W w' := Put_any n 8 hn (by omega) W
theorem Put4 (n : Nat) (hn : n < 18446744073709551616) (W : World) : Calls Try.prog 22 #[.int .u64 (n : Int), .int .i64 4] W fun e w' => e = .returned (.string (putB n 4)) ∧ Below W.heap.size W w' := Put_any n 4 hn (by omega) W
theorem putB_list (n w : Nat) : (putB n w).data.toList = putL n w := rfl

theorem own_two (w : World) (a b : UInt8) (base : Nat) (hb : base ≤ w.heap.size) : OwnsB (w.alloc (.cells #[.int .u8 (a.toNat : Int), .int .u8 (b.toNat : Int)] 5)) base (.slice (some ⟨w.heap.size, 0, none⟩) 2 2) [a, b] :=
  World.ownsRow_lit w #[.int .u8 (a.toNat : Int), .int .u8 (b.toNat : Int)] 2 hb (by decide) rfl

theorem Body_any (k : Int) (n d : Nat) (hk : (Lit.int .i64 k).wf = true) (hn : n < 18446744073709551616) (hd : d < 18446744073709551616) (w : World) :
    Calls Try.prog 10 #[recV k n d] w fun e w' => e = .returned (.string (bodyB k n d)) ∧ Below w.heap.size w w' := by
  go_enter Try.func10, Try.ntmps10
  have hkb := kindB_int k
  go_wp2_with (with_reducible refine (Put8 n hn _).mono ?_)
  rintro e w1 ⟨rfl, hb1⟩
  rw [← hkb] at hb1
  have o0 : OwnsB w1 (w.heap.size + 1) (.slice (some ⟨w.heap.size + 1, 0, none⟩) 2 2) [165, kindB k] := by
    have h := own_two (w.alloc (.cells #[.int .i64 k, .int .u64 (n : Int), .int .u64 (d : Int)] 24)) 165 (kindB k) (w.heap.size + 1) (by simp)
    simp only [World.size_alloc] at h
    exact OwnsB.below h hb1
  have x1 := Blk.new w 24 #[.int .i64 k, .int .u64 (n : Int), .int .u64 (d : Int)]
  have x2 := (x1.alloc (.cells #[.int .u8 165, .int .u8 ((kindB k).toNat : Int)] 5)).below hb1 (by simp; omega)
  have B1 : Below w.heap.size w w1 := (((Below.refl _ w).alloc (Nat.le_refl _) _).alloc (by simp) _).trans (hb1.mono (by simp; omega))
  have hz1 : w.heap.size + 1 ≤ w1.heap.size := by have := hb1.size; simp at this; omega
  clear hb1 x1
  go_wp2_with (first | (at_builtin; refine step_append_str _ rfl _ _ rfl rfl rfl o0 ?l1 ?b1 ?_))
  case l1 => simp [putB_size]
  case b1 => exact hz1
  intro v1 w2 o1 hb2
  have B2 := B1.trans (hb2.mono (Nat.le_succ _))
  have x3 := x2.below hb2 (Nat.lt_succ_self _)
  have y2 := x3.cell 2
  have hz2 := Nat.le_trans hz1 hb2.size
  clear o0 x2 hb2 B1
  go_wp2_with (with_reducible refine (Put8 d hd _).mono ?_)
  rintro e w3 ⟨rfl, hb3⟩
  have o2 := o1.below hb3
  have B3 := B2.trans (hb3.mono B2.size)
  have hz3 := Nat.le_trans hz2 hb3.size
  clear o1 hb3 B2 x3 y2
  go_wp2_with (first | (at_builtin; refine step_append_str _ rfl _ _ rfl rfl rfl o2 ?l1 ?b1 ?_))
  case l1 => simp [putB_size]
  case b1 => exact hz3
  intro v2 w4 o3 hb4
  have B4 := B3.trans (hb4.mono (Nat.le_succ _))
  have hz4 := Nat.le_trans hz3 hb4.size
  clear o2 hb4 B3
  have hcv : ∀ m : CalmW w4.heap.size w4, (convert 41 9 v2).run Try.prog m.val = .ok (.string (headB k n d)) m.val := fun m => conv_own (o3.below m.below)
  have hs : (headB k n d).size ≤ maxLen := by rw [headB_size]; unfold maxLen; omega
  have hr : (Crc.rev32 (Crc.sumS (headB k n d))).toNat < 18446744073709551616 := by have := (Crc.rev32 (Crc.sumS (headB k n d))).isLt; omega
  have HM := Lib.hid (bodyB_eq k n d)
  have hz8 := headB_size k n d
  have hz9 := putB_size (Crc.rev32 (Crc.sumS (headB k n d))).toNat 4
  go_wp2_with fail
  (refine wp_region_calm (w4.heap.size) (by kernel_rfl) (by kernel_rfl) ?_; (repeat (go_big_quiet_step ((first | (with_reducible refine calm_of (Nat.le_refl _) (Crc.Sum_any _ hs _)) | (with_reducible refine calm_same (Crc.Rev_any _ _)) | (with_reducible refine calm_of (Nat.le_refl _) (Put4 _ hr _)))))); refine wpQuiet_nil ?_; intro W5 hw'; obtain ⟨⟨_, hW5⟩, hw''⟩ := hw'; subst hw'')
  go_wp2
  go_ret
  exact ⟨by rw [HM.out]; rfl, B4.trans (hW5.mono B4.size)⟩

def encB (k : Int) (n d : Nat) : ByteArray := bodyB k n d ++ ⟨#[90, 60]⟩
theorem encB_size (k : Int) (n d : Nat) : (encB k n d).size = 24 := by unfold encB; rw [ByteArray.size_append, bodyB_size]; rfl

theorem Encode_any (k : Int) (n d : Nat) (hk : (Lit.int .i64 k).wf = true) (hn : n < 18446744073709551616) (hd : d < 18446744073709551616) (w : World) :
    Calls Try.prog 12 #[recV k n d] w fun e w' => e = .returned (.string (encB k n d)) ∧ Below w.heap.size w w' := by
  have hz := bodyB_size k n d
  go_enter Try.func12, Try.ntmps12
  go_wp2_with (with_reducible refine (Body_any k n d hk hn hd _).mono ?_; rintro e w1 ⟨rfl, hb1⟩)
  go_ret
  exact ⟨rfl, ((Below.refl _ w).alloc (Nat.le_refl _) _).trans (hb1.mono (by simp))⟩
end Go.Proofs.Ytclhdgolcaacbaa
