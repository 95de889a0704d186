/- Contracts and plain laws, put together: BlankF, Blank, Rec, Dec, DecM, Good, RecMath, Full, Caught, Cut. -/
import Derived.Test.YtebkeocpojlepaaGreatDoorG07
import Derived.Lib.Strings
import Derived.Lib.Slices
import Derived.Lib.Walk
import Derived.Lib.Bytealg
import Derived.Lib.AppendStr
import Derived.Deep.RegionWith
import Derived.Defers
import Derived.Recover
import Derived.Laws.Pointers
/- flash.Blank (over strings.Count at one byte): what it answers. -/
namespace Go.Proofs.YtebkeocpojlepaaGreatDoor
open Go.RowKit
set_option linter.unusedVariables false
set_option linter.unusedSimpArgs false

theorem toList_loop (s : ByteArray) : ∀ (n i : Nat) (r : List UInt8), s.size - i = n → ByteArray.toList.loop s i r = r.reverse ++ s.data.toList.drop i := by
  intro n
  induction n with
  | zero =>
    intro i r h
    rw [ByteArray.toList.loop, if_neg (by omega), List.drop_eq_nil_of_le (by simp; have : s.size = s.data.size := rfl; omega), List.append_nil]
  | succ n ih =>
    intro i r h
    have hi : i < s.size := by omega
    rw [ByteArray.toList.loop, if_pos hi, ih (i + 1) _ (by omega)]
    have hi2 : i < s.data.toList.length := by simp; exact hi
    rw [List.drop_eq_getElem_cons hi2, List.reverse_cons, List.append_assoc]
    congr 1
    have e : s.get! i = s.data.toList[i] := by
      show s.data[i]! = _
      rw [getElem!_pos s.data i hi]; simp
    rw [e]; rfl
theorem toList_data (s : ByteArray) : s.toList = s.data.toList := by
  rw [ByteArray.toList, toList_loop s _ 0 [] rfl]; simp

set_option maxHeartbeats 1000000 in
set_option maxRecDepth 100000 in
theorem count_any (s : ByteArray) (c : UInt8) (w : World) :
    Calls Tryz.prog 153 #[.string s, .string ⟨#[c]⟩] w fun e w' => e = .returned (.int .i64 (Lib.countByte s.data.toList c)) ∧ w = w' := by
  go_enter Tryz.func153, Tryz.ntmps153
  go_wp2
  rw [run_callFunc_extern Tryz.func156 (by kernel_rfl) (by kernel_rfl) (by kernel_rfl) (e := Extern.BytealgCount.count) (by kernel_rfl), Lib.run_countString]
  simp only [Result.andThen]
  rw [Oper.upon_value]
  go_wp2
  go_ret
  exact ⟨rfl, rfl⟩

/-- whether all bytes are 255 -/
def blankS (s : ByteArray) : Bool := s.data.toList.all (· == 255)
theorem blank_count (s : ByteArray) : (((Lib.countByte s.data.toList 255 : Nat) : Int) == (s.size : Int)) = blankS s := by
  unfold blankS Lib.countByte
  have hl : s.data.toList.length = s.size := by simp
  rw [Bool.eq_iff_iff, beq_iff_eq, List.all_eq_true, ← hl]
  rw [show ((List.count 255 s.data.toList : Nat) : Int) = ((s.data.toList.length : Nat) : Int) ↔ List.count 255 s.data.toList = s.data.toList.length by omega, List.count_eq_length]
  constructor
  · intro h x hx; exact beq_iff_eq.2 (h x hx).symm
  · intro h x hx; exact (beq_iff_eq.1 (h x hx)).symm

theorem Blank_any (s : ByteArray) (w : World) :
    Calls Tryz.prog 148 #[.string s] w fun e w' => e = .returned (.bool (blankS s)) ∧ w = w' := by
  have hc := blank_count s
  go_enter Tryz.func148, Tryz.ntmps148
  go_wp2_with (refine (count_any _ _ _).mono ?_; rintro e w' ⟨rfl, rfl⟩)
  go_ret
  exact ⟨rfl, rfl⟩

end Go.Proofs.YtebkeocpojlepaaGreatDoor

/- bits.ReverseBytes32: what it answers. -/
namespace Go.Proofs.YtebkeocpojlepaaGreatDoor
open Go.RowKit
set_option linter.unusedVariables false
set_option linter.unusedSimpArgs false

namespace Crc
theorem bits_or (c d : W) : bits .or .u32 (c.toNat : Int) (d.toNat : Int) = ((c ||| d).toNat : Int) := by
  show IntKind.u32.wrap ((BitVec.ofInt 32 _ ||| BitVec.ofInt 32 _).toNat : Int) = _
  rw [ofInt32, ofInt32]; exact wrap32u _ (c ||| d).isLt
theorem shr8 (c : W) : (c.toNat : Int) / (256 : Int) = ((c >>> 8).toNat : Int) := by
  rw [BitVec.toNat_ushiftRight, Nat.shiftRight_eq_div_pow]; rfl
theorem shr16 (c : W) : (c.toNat : Int) / (65536 : Int) = ((c >>> 16).toNat : Int) := by
  rw [BitVec.toNat_ushiftRight, Nat.shiftRight_eq_div_pow]; rfl
theorem shl8 (c : W) : (c.toNat : Int) * (256 : Int) % (4294967296 : Int) = ((c <<< 8).toNat : Int) := by
  rw [BitVec.toNat_shiftLeft, Nat.shiftLeft_eq]; rfl
theorem shl16 (c : W) : (c.toNat : Int) * (65536 : Int) % (4294967296 : Int) = ((c <<< 16).toNat : Int) := by
  rw [BitVec.toNat_shiftLeft, Nat.shiftLeft_eq]; rfl
theorem m8 : (16711935 : Int) = ((16711935#32 : W).toNat : Int) := rfl

/-- the bytes of a word the other way round -/
def rev32 (x : W) : W := (((x >>> 8) &&& 16711935#32) ||| ((x &&& 16711935#32) <<< 8)) >>> 16 ||| (((x >>> 8) &&& 16711935#32) ||| ((x &&& 16711935#32) <<< 8)) <<< 16

theorem Rev_any (x : W) (w : World) :
    Calls Tryz.prog 144 #[u32 x] w fun e w' => e = .returned (u32 (rev32 x)) ∧ w = w' := by
  go_enter Tryz.func144, Tryz.ntmps144
  go_wp2
  go_ret
  refine ⟨ret_int ?_, rfl⟩
  rw [m8]
  rw [shr8, bits_and, bits_and, shl8, bits_or, shr16, shl16, bits_or]
  rfl

/-- the bytes of a word, the lowest one first -/
def lowL (x : W) : List UInt8 := [⟨x.extractLsb' 0 8⟩, ⟨x.extractLsb' 8 8⟩, ⟨x.extractLsb' 16 8⟩, ⟨x.extractLsb' 24 8⟩]

theorem byte_of (x : W) (k : Nat) : UInt8.ofNat (x.toNat / 2 ^ k) = ⟨x.extractLsb' k 8⟩ := by
  apply UInt8.eq_of_toBitVec_eq
  apply BitVec.eq_of_toNat_eq
  rw [BitVec.extractLsb'_toNat, Nat.shiftRight_eq_div_pow]
  simp

theorem rev_at (x : W) (i : Nat) (hi : i < 8) : (rev32 x).getLsbD (24 + i) = x.getLsbD i ∧ (rev32 x).getLsbD (16 + i) = x.getLsbD (8 + i) ∧ (rev32 x).getLsbD (8 + i) = x.getLsbD (16 + i) ∧ (rev32 x).getLsbD i = x.getLsbD (24 + i) := by
  have h0 : ∀ j, j < 32 → (16711935#32 : W).getLsbD j = (decide (j < 8) || (decide (16 ≤ j) && decide (j < 24))) := by decide
  unfold rev32
  rcases (show i = 0 ∨ i = 1 ∨ i = 2 ∨ i = 3 ∨ i = 4 ∨ i = 5 ∨ i = 6 ∨ i = 7 from by omega) with rfl | rfl | rfl | rfl | rfl | rfl | rfl | rfl <;>
    simp [BitVec.getLsbD_or, BitVec.getLsbD_and, BitVec.getLsbD_ushiftRight, BitVec.getLsbD_shiftLeft, h0]

theorem putL_rev (x : W) : putL (rev32 x).toNat 4 = lowL x := by
  rw [putL_cons, putL_cons, putL_cons, putL_cons]
  unfold lowL
  have e1 := byte_of (rev32 x) 24
  have e2 := byte_of (rev32 x) 16
  have e3 := byte_of (rev32 x) 8
  have e4 := byte_of (rev32 x) 0
  rw [show (256 : Nat) ^ 3 = 2 ^ 24 from by decide, show (256 : Nat) ^ 2 = 2 ^ 16 from by decide, show (256 : Nat) ^ 1 = 2 ^ 8 from by decide, show (256 : Nat) ^ 0 = 2 ^ 0 from by decide, e1, e2, e3, e4]
  have key : ∀ (a b : Nat), (∀ i, i < 8 → (rev32 x).getLsbD (a + i) = x.getLsbD (b + i)) → (rev32 x).extractLsb' a 8 = x.extractLsb' b 8 := fun a b h => by
    apply BitVec.eq_of_getLsbD_eq
    intro i hi
    rw [BitVec.getLsbD_extractLsb', BitVec.getLsbD_extractLsb', h i hi]
  rw [key 24 0 (fun i hi => by rw [Nat.zero_add]; exact (rev_at x i hi).1), key 16 8 (fun i hi => (rev_at x i hi).2.1), key 8 16 (fun i hi => (rev_at x i hi).2.2.1), key 0 24 (fun i hi => by rw [Nat.zero_add]; exact (rev_at x i hi).2.2.2)]
  rfl
end Crc
end Go.Proofs.YtebkeocpojlepaaGreatDoor

/- record.Body, Encode: what they answer. -/
namespace Go.Proofs.YtebkeocpojlepaaGreatDoor
open Go.RowKit
set_option linter.unusedVariables false
set_option linter.unusedSimpArgs false

/-- a record, as a value -/
abbrev recV (k : Int) (n d : Nat) : Value := .agg #[.int .i64 k, .int .u64 (n : Int), .int .u64 (d : Int)]
def kindB (k : Int) : UInt8 := UInt8.ofNat (k % 256).toNat
theorem kindB_int (k : Int) : ((kindB k).toNat : Int) = k % 256 := by
  unfold kindB; simp; omega
/-- the first 18 bytes -/
def headL (k : Int) (n d : Nat) : List UInt8 := [165, kindB k] ++ putL n 8 ++ putL d 8
def headB (k : Int) (n d : Nat) : ByteArray := ⟨(headL k n d).toArray⟩
def bodyB (k : Int) (n d : Nat) : ByteArray := ⟨(headL k n d ++ Crc.lowL (Crc.sumS (headB k n d))).toArray⟩
theorem headB_size (k : Int) (n d : Nat) : (headB k n d).size = 18 := by show (headL k n d).toArray.size = 18; simp [headL, putL_length]
theorem bodyB_size (k : Int) (n d : Nat) : (bodyB k n d).size = 22 := by
  show (headL k n d ++ Crc.lowL (Crc.sumS (headB k n d))).toArray.size = 22; simp [headL, putL_length, Crc.lowL]

theorem bodyB_eq (k : Int) (n d : Nat) : bodyB k n d = headB k n d ++ putB (Crc.rev32 (Crc.sumS (headB k n d))).toNat 4 := by
  unfold bodyB putB
  rw [Crc.putL_rev]
  apply ByteArray.ext
  rw [ByteArray.data_append]
  apply Array.ext'
  simp [headB]

theorem cells_str (s : ByteArray) : Lib.strCells s = bcells s.data.toList := rfl

theorem step_append_str {ops : Array Oper} {rest : List Oper} {o : Oper} {a : Act} {Q : Exit → Act → World → Prop} (w : World) (hgd : o.guard = none) (s x : Operand)
    (hop : o.op = .call { callee := .builtin .append, args := #[s, x], argTypes := #[108, 9] })
    {base : Nat} {v : Value} {l : List UInt8} {t : ByteArray} (hs : a.eval s = v) (hx : a.eval x = .string t) (hown : OwnsB w base v l) (hlen : l.length + t.size ≤ 140737488355328) (hbase : base ≤ w.heap.size)
    (hK : ∀ v' w', OwnsB w' base v' (l ++ t.data.toList) → Below base w w' → wpList Tryz.prog ops Q rest (a.put o.dst v') w') : wpList Tryz.prog ops Q (o :: rest) a w := by
  obtain ⟨i0, hi, hz0, hz1, hz2⟩ := info_parts infoB
  refine Lib.wpList_append_own_string (P := Tryz.prog) w hgd s x 108 9 hop base 5 i0 Tryz.underlying108 Tryz.underlying9 hi hz0 hz1 hz2 v l.length (bcells l) hs hown t hx (by unfold maxLen; omega) hlen hbase ?_
  intro v' w' h2 h3 _
  refine hK v' w' ?_ ((Below.refl base w).grown h3 hbase (fun k e => OwnsB.base_le hown k e))
  unfold OwnsB
  have e1 : (l ++ t.data.toList).length = l.length + t.size := by simp
  have e2 : bcells (l ++ t.data.toList) = bcells l ++ Lib.strCells t := by unfold bcells; rw [List.map_append]; rfl
  rw [e1, e2]; exact h2
theorem Put8 (n : Nat) (hn : n < 18446744073709551616) (W : World) : Calls Tryz.prog 68 #[.int .u64 (n : Int), .int .i64 8] W fun e w' => e = .returned (.string (putB n 8)) ∧ Below W.heap.size W w' := Put_any n 8 hn (by omega) W
theorem Put4 (n : Nat) (hn : n < 18446744073709551616) (W : World) : Calls Tryz.prog 68 #[.int .u64 (n : Int), .int .i64 4] W fun e w' => e = .returned (.string (putB n 4)) ∧ Below W.heap.size W w' := Put_any n 4 hn (by omega) W
theorem putB_list (n w : Nat) : (putB n w).data.toList = putL n w := rfl

theorem own_two (w : World) (a b : UInt8) (base : Nat) (hb : base ≤ w.heap.size) : OwnsB (w.alloc (.cells #[.int .u8 (a.toNat : Int), .int .u8 (b.toNat : Int)] 5)) base (.slice (some ⟨w.heap.size, 0, none⟩) 2 2) [a, b] :=
  World.ownsRow_lit w #[.int .u8 (a.toNat : Int), .int .u8 (b.toNat : Int)] 2 hb (by decide) rfl

theorem Body_any (k : Int) (n d : Nat) (hk : (Lit.int .i64 k).wf = true) (hn : n < 18446744073709551616) (hd : d < 18446744073709551616) (w : World) :
    Calls Tryz.prog 132 #[recV k n d] w fun e w' => e = .returned (.string (bodyB k n d)) ∧ Below w.heap.size w w' := by
  go_enter Tryz.func132, Tryz.ntmps132
  have hkb := kindB_int k
  go_wp2_with (with_reducible refine (Put8 n hn _).mono ?_)
  rintro e w1 ⟨rfl, hb1⟩
  rw [← hkb] at hb1
  have o0 : OwnsB w1 (w.heap.size + 1) (.slice (some ⟨w.heap.size + 1, 0, none⟩) 2 2) [165, kindB k] := by
    have h := own_two (w.alloc (.cells #[.int .i64 k, .int .u64 (n : Int), .int .u64 (d : Int)] 166)) 165 (kindB k) (w.heap.size + 1) (by simp)
    simp only [World.size_alloc] at h
    exact OwnsB.below h hb1
  have x1 := Blk.new w 166 #[.int .i64 k, .int .u64 (n : Int), .int .u64 (d : Int)]
  have x2 := (x1.alloc (.cells #[.int .u8 165, .int .u8 ((kindB k).toNat : Int)] 5)).below hb1 (by simp; omega)
  have B1 : Below w.heap.size w w1 := (((Below.refl _ w).alloc (Nat.le_refl _) _).alloc (by simp) _).trans (hb1.mono (by simp; omega))
  have hz1 : w.heap.size + 1 ≤ w1.heap.size := by have := hb1.size; simp at this; omega
  clear hb1 x1
  go_wp2_with (first | (at_builtin; refine step_append_str _ rfl _ _ rfl rfl rfl o0 ?l1 ?b1 ?_))
  case l1 => simp [putB_size]
  case b1 => exact hz1
  intro v1 w2 o1 hb2
  have B2 := B1.trans (hb2.mono (Nat.le_succ _))
  have x3 := x2.below hb2 (Nat.lt_succ_self _)
  have y2 := x3.cell 2
  have hz2 := Nat.le_trans hz1 hb2.size
  clear o0 x2 hb2 B1
  go_wp2_with (with_reducible refine (Put8 d hd _).mono ?_)
  rintro e w3 ⟨rfl, hb3⟩
  have o2 := o1.below hb3
  have B3 := B2.trans (hb3.mono B2.size)
  have hz3 := Nat.le_trans hz2 hb3.size
  clear o1 hb3 B2 x3 y2
  go_wp2_with (first | (at_builtin; refine step_append_str _ rfl _ _ rfl rfl rfl o2 ?l1 ?b1 ?_))
  case l1 => simp [putB_size]
  case b1 => exact hz3
  intro v2 w4 o3 hb4
  have B4 := B3.trans (hb4.mono (Nat.le_succ _))
  have hz4 := Nat.le_trans hz3 hb4.size
  clear o2 hb4 B3
  have hcv : ∀ m : CalmW w4.heap.size w4, (convert 108 9 v2).run Tryz.prog m.val = .ok (.string (headB k n d)) m.val := fun m => conv_own (o3.below m.below)
  have hs : (headB k n d).size ≤ maxLen := by rw [headB_size]; unfold maxLen; omega
  have hr : (Crc.rev32 (Crc.sumS (headB k n d))).toNat < 18446744073709551616 := by have := (Crc.rev32 (Crc.sumS (headB k n d))).isLt; omega
  have HM := Lib.hid (bodyB_eq k n d)
  have hz8 := headB_size k n d
  have hz9 := putB_size (Crc.rev32 (Crc.sumS (headB k n d))).toNat 4
  go_wp2_with fail
  (refine wp_region_calm (w4.heap.size) (by kernel_rfl) (by kernel_rfl) ?_; (repeat (go_big_quiet_step ((first | (with_reducible refine calm_of (Nat.le_refl _) (Crc.Sum_any _ hs _)) | (with_reducible refine calm_same (Crc.Rev_any _ _)) | (with_reducible refine calm_of (Nat.le_refl _) (Put4 _ hr _)))))); refine wpQuiet_nil ?_; intro W5 hw'; obtain ⟨⟨_, hW5⟩, hw''⟩ := hw'; subst hw'')
  go_wp2
  go_ret
  exact ⟨by rw [HM.out]; rfl, B4.trans (hW5.mono B4.size)⟩

def encB (k : Int) (n d : Nat) : ByteArray := bodyB k n d ++ ⟨#[90, 60]⟩
theorem encB_size (k : Int) (n d : Nat) : (encB k n d).size = 24 := by unfold encB; rw [ByteArray.size_append, bodyB_size]; rfl

end Go.Proofs.YtebkeocpojlepaaGreatDoor

/- record.Decode, Good: what they answer. -/
namespace Go.Proofs.YtebkeocpojlepaaGreatDoor
open Go.RowKit
set_option linter.unusedVariables false
set_option linter.unusedSimpArgs false

theorem ext_size (s : ByteArray) (p q : Nat) (h : p ≤ q) (h2 : q ≤ s.size) : (s.extract p q).size = q - p := by
  rw [ByteArray.size_extract]; omega
theorem ext_of_ext (s : ByteArray) (p a b : Nat) : (s.extract p s.size).extract a b = s.extract (p + a) (min (p + b) s.size) := by
  rw [ByteArray.extract_extract]

set_option maxHeartbeats 1000000 in
theorem take_any (s : ByteArray) (p n B : Nat) (h : p + n ≤ s.size) (hs : s.size ≤ 1000) (w : World) (hc : w.cell? ⟨B, 0, none⟩ = some (.string (s.extract p s.size))) (hf : w.frozen? ⟨B, 0, none⟩ = false) :
    Calls Tryz.prog 149 #[.pointer (some ⟨B, 0, none⟩), .int .i64 (n : Int)] w fun e w' =>
      e = .returned (.string (s.extract p (p + n))) ∧ w' = (w.setCell ⟨B, 0, none⟩ (.string (s.extract (p + n) s.size))).drew := by
  have hz := ext_size s p s.size (by omega) (Nat.le_refl _)
  have e1 : (s.extract p s.size).extract 0 n = s.extract p (p + n) := by rw [ext_of_ext, Nat.add_zero, Nat.min_eq_left h]
  have e2 : (s.extract p s.size).extract n (s.extract p s.size).size = s.extract (p + n) s.size := by rw [ext_of_ext, hz, show p + (s.size - p) = s.size by omega, Nat.min_self]
  obtain ⟨t, ht⟩ : ∃ t, t = s.extract p s.size := ⟨_, rfl⟩
  rw [← ht] at hz e1 e2 hc
  have hn : n ≤ t.size := by omega
  have ht1 : t.size ≤ 1000 := by omega
  obtain ⟨x, hx⟩ : ∃ x, x = s.extract p (p + n) := ⟨_, rfl⟩
  obtain ⟨y, hy⟩ : ∃ y, y = s.extract (p + n) s.size := ⟨_, rfl⟩
  rw [← hx] at e1
  rw [← hy] at e2
  rw [← hx, ← hy]
  clear hx hy hz ht h hs
  go_enter Tryz.func149, Tryz.ntmps149
  go_wp2
  go_region
  all_goals
    go_wp2
    go_ret
    exact ⟨rfl, rfl⟩

/-- one take, with its number as the code has it; x: what it answers, y: what is left -/
theorem take_lit (s : ByteArray) (p n B : Nat) (N : Int) (hN : N = (n : Int)) (x : ByteArray) (q : Nat) (hq : q = p + n) (hx : s.extract p q = x) (h : q ≤ s.size) (hs : s.size ≤ 1000) (w : World)
    (hc : Blk w B 229 #[.string (s.extract p s.size)]) :
    Calls Tryz.prog 149 #[.pointer (some ⟨B, 0, none⟩), .int .i64 N] w fun e w' =>
      e = .returned (.string x) ∧ (Blk w' B 229 #[.string (s.extract q s.size)] ∧ Below B w w' ∧ ∀ j t cs, j ≠ B → Blk w j t cs → Blk w' j t cs) := by
  subst hN hq hx
  refine (take_any s p n B h hs w (hc.cell 0) (hc.frozen 0)).mono ?_
  rintro e w' ⟨rfl, rfl⟩
  exact ⟨rfl, hc.set 0 _, ((Below.refl _ w).setCell (by simp) _).drew, fun j t cs hj h => (h.other _ (by exact hj) _).drew⟩

def byteAt (s : ByteArray) (j : Nat) : UInt8 := s.data.toList.getD j 0
theorem ext_one (s : ByteArray) (p : Nat) (h : p < s.size) : s.extract p (p + 1) = ⟨#[byteAt s p]⟩ := by
  apply ByteArray.ext
  rw [ByteArray.data_extract]
  apply Array.ext
  · simp; have : s.size = s.data.size := rfl; omega
  · intro i h1 h2
    have : s.size = s.data.size := rfl
    simp at h2
    subst h2
    simp [byteAt]
    rw [Array.getElem?_eq_getElem (by omega)]
    rfl
theorem get4 (y : ByteArray) (h : y.size = 4) : ∃ c : Crc.W, getN y = c.toNat := by
  have := getL_lt y.data.toList
  have hl : y.data.toList.length = 4 := by simpa using h
  rw [hl] at this
  exact ⟨BitVec.ofNat 32 (getN y), by rw [BitVec.toNat_ofNat, Nat.mod_eq_of_lt (by exact this)]⟩
theorem get8 (y : ByteArray) (h : y.size = 8) : getN y < 18446744073709551616 := by
  have := getL_lt y.data.toList
  have hl : y.data.toList.length = 8 := by simpa using h
  rw [hl] at this
  exact this

theorem dec_result (tmps : Array Value) (F : World) (B : Nat) (k : Int) (n d : Int) (E : Int) (h2 : tmps.getD 2 undef = .pointer (some ⟨B, 0, none⟩)) (h3 : tmps.getD 3 undef = .int .i64 E)
    (hF : Blk F B 166 #[.int .i64 k, .int .u64 n, .int .u64 d]) :
    (results Tryz.f141 tmps).run Tryz.prog F = .ok (.tuple #[.agg #[.int .i64 k, .int .u64 n, .int .u64 d], .int .i64 E]) F := by
  have r0 := hF.cell 0
  have r1 := hF.cell 1
  have r2 := hF.cell 2
  rw [Array.getD_eq_getD_getElem?] at h2 h3
  simp [results, Tryz.f141, go_sem, h2, h3, r0, r1, r2]

/-- what Decode answers: kind, number, data, error -/
def dec (s : ByteArray) : Nat × Nat × Nat × Int :=
  if s.size ≠ 24 then (0, 0, 0, 1) else if blankS s = true then (0, 0, 0, 5) else if byteAt s 0 ≠ 165 then (0, 0, 0, 6)
  else if Crc.rev32 (BitVec.ofNat 32 (getN (s.extract 18 22))) ≠ Crc.rangeW s 0 18 then (0, 0, 0, 7)
  else if (byteAt s 1).toNat < 1 ∨ 3 < (byteAt s 1).toNat then (0, 0, 0, 8)
  else if s.extract 22 24 ≠ ⟨#[90, 60]⟩ then (0, 0, 0, 9) else ((byteAt s 1).toNat, getN (s.extract 2 10), getN (s.extract 10 18), 0)
def decK (s : ByteArray) : Nat := (dec s).1
def decN (s : ByteArray) : Nat := (dec s).2.1
def decD (s : ByteArray) : Nat := (dec s).2.2.1
def decE (s : ByteArray) : Int := (dec s).2.2.2
abbrev decV (s : ByteArray) : Value := .tuple #[recV (decK s : Int) (decN s) (decD s), .int .i64 (decE s)]

theorem dec_sets {W : World} {B : Nat} {a b c : Value} (hR : Blk W B 166 #[a, b, c]) (x y z : Value) :
    Blk (((W.setCell ⟨B, 0, none⟩ x).setCell ⟨B, 1, none⟩ y).setCell ⟨B, 2, none⟩ z) B 166 #[x, y, z] := by
  simpa using ((hR.set 0 x).set 1 y).set 2 z
theorem dec_bel {w W : World} {B : Nat} (h : Below B w W) (x y z : Value) : Below B w (((W.setCell ⟨B, 0, none⟩ x).setCell ⟨B, 1, none⟩ y).setCell ⟨B, 2, none⟩ z) :=
  ((h.setCell (p := ⟨B, 0, none⟩) (Nat.le_refl _) x).setCell (p := ⟨B, 1, none⟩) (Nat.le_refl _) y).setCell (p := ⟨B, 2, none⟩) (Nat.le_refl _) z

theorem dec_end (s : ByteArray) (w F : World) (a : Act) (k n d : Nat) (E : Int) (ha : a.defers = []) (h2 : a.tmps.getD 2 undef = .pointer (some ⟨w.heap.size, 0, none⟩)) (h3 : a.tmps.getD 3 undef = .int .i64 E)
    (hF : Blk F w.heap.size 166 #[.int .i64 (k : Int), .int .u64 (n : Int), .int .u64 (d : Int)]) (hb : Below w.heap.size w F) (hd : dec s = (k, n, d, E)) :
    bodyPost Tryz.prog Tryz.f141 (fun e w' => e = .returned (decV s) ∧ Below w.heap.size w w') Exit.ret a F := by
  refine ⟨ha, _, dec_result _ F w.heap.size _ _ _ E h2 h3 hF, ?_, hb⟩
  unfold decV decK decN decD decE
  rw [hd]

set_option maxHeartbeats 4000000 in
theorem Decode_magic (s : ByteArray) (hs : s.size = 24) (hbl : blankS s = false) (hmg : byteAt s 0 ≠ 165) (w : World) :
    Calls Tryz.prog 141 #[.string s] w fun e w' => e = .returned (decV s) ∧ Below w.heap.size w w' := by
  have hd : dec s = (0, 0, 0, 6) := by unfold dec; rw [if_neg (by simp [hs]), if_neg (by simp [hbl]), if_pos hmg]
  have hm : s.size ≤ 1000 := by omega
  have hmx : s.size ≤ maxLen := by unfold maxLen; omega
  have e0 : s.extract 0 s.size = s := by simp
  have x0 := ext_one s 0 (by omega)
  have x1 := ext_one s 1 (by omega)
  obtain ⟨X2, x2⟩ : ∃ X, s.extract 2 10 = X := ⟨_, rfl⟩
  obtain ⟨X3, x3⟩ : ∃ X, s.extract 10 18 = X := ⟨_, rfl⟩
  obtain ⟨X4, x4⟩ : ∃ X, s.extract 18 22 = X := ⟨_, rfl⟩
  have z2 : X2.size ≤ 8 := by rw [← x2, ext_size s 2 10 (by omega) (by omega)]; omega
  have z3 : X3.size ≤ 8 := by rw [← x3, ext_size s 10 18 (by omega) (by omega)]; omega
  have z4 : X4.size ≤ 8 := by rw [← x4, ext_size s 18 22 (by omega) (by omega)]; omega
  obtain ⟨c, hc⟩ := get4 X4 (by rw [← x4, ext_size s 18 22 (by omega) (by omega)])
  have hG4 : ∀ W, Calls Tryz.prog 67 #[.string X4] W fun e w' => e = .returned (.int .u64 (c.toNat : Int)) ∧ W = w' := fun W => by rw [← hc]; exact Get_any X4 z4 W
  have hcl := c.isLt
  clear hc z4
  obtain ⟨a0, ha0⟩ : ∃ a0, byteAt s 0 = a0 := ⟨_, rfl⟩
  obtain ⟨a1, ha1⟩ : ∃ a1, byteAt s 1 = a1 := ⟨_, rfl⟩
  rw [ha0] at x0
  rw [ha1] at x1
  have hne : (((a0.toNat : Nat) : Int) != 165) = true := by
    rw [ha0] at hmg; simp; intro h; exact hmg (UInt8.toNat_inj.1 (by show a0.toNat = 165; omega))
  go_enter Tryz.func141, Tryz.ntmps141
  go_wp2_with (first | (with_reducible refine (Blank_any _ _).mono ?_; rintro e w1 ⟨rfl, rfl⟩))
  have kR := (Blk.new w 166 #[.int .i64 0, .int .u64 0, .int .u64 0]).alloc (.cells #[.string s] 229)
  have kT : Blk ((w.alloc (.cells #[.int .i64 0, .int .u64 0, .int .u64 0] 166)).alloc (.cells #[.string s] 229)) (w.heap.size + 1) 229 #[.string (s.extract 0 s.size)] := by
    rw [e0]; have h := Blk.new (w.alloc (.cells #[.int .i64 0, .int .u64 0, .int .u64 0] 166)) 229 #[.string s]
    rwa [World.size_alloc] at h
  have B1 : Below w.heap.size w ((w.alloc (.cells #[.int .i64 0, .int .u64 0, .int .u64 0] 166)).alloc (.cells #[.string s] 229)) := ((Below.refl _ w).alloc (Nat.le_refl _) _).alloc (by simp) _
  generalize ((w.alloc (.cells #[.int .i64 0, .int .u64 0, .int .u64 0] 166)).alloc (.cells #[.string s] 229)) = W0 at *
  have kT' := kT.drew
  have h256 : a1.toNat < 256 := a1.toNat_lt
  have hi0 : ((⟨#[a0]⟩ : ByteArray)[0]'(Nat.zero_lt_one)) = a0 := rfl
  have hi1 : ((⟨#[a1]⟩ : ByteArray)[0]'(Nat.zero_lt_one)) = a1 := rfl
  go_region_with (first | (with_reducible refine (take_lit s 0 1 (w.heap.size + 1) 1 rfl _ 1 rfl x0 (by omega) hm _ kT').mono ?_; rintro e w1 ⟨rfl, t1, b1, n1⟩) | (with_reducible refine (take_lit s 1 1 (w.heap.size + 1) 1 rfl _ 2 rfl x1 (by omega) hm _ t1).mono ?_; rintro e w2 ⟨rfl, t2, b2, n2⟩))
  all_goals
    go_wp2_with (first | (with_reducible refine (take_lit s 2 8 (w.heap.size + 1) 8 rfl _ 10 rfl x2 (by omega) hm _ t2).mono ?_; rintro e w3 ⟨rfl, t3, b3, n3⟩) | (with_reducible refine (Get_any X2 z2 _).mono ?_; rintro e w4 ⟨rfl, rfl⟩) | (with_reducible refine (take_lit s 10 8 (w.heap.size + 1) 8 rfl _ 18 rfl x3 (by omega) hm _ t3).mono ?_; rintro e w5 ⟨rfl, t4, b5, n5⟩) | (with_reducible refine (Get_any X3 z3 _).mono ?_; rintro e w6 ⟨rfl, rfl⟩) | (with_reducible refine (take_lit s 18 4 (w.heap.size + 1) 4 rfl _ 22 rfl x4 (by omega) hm _ (t4.alloc _)).mono ?_; rintro e w7 ⟨rfl, t5, b7, n7⟩) | (with_reducible refine (hG4 _).mono ?_; rintro e w8 ⟨rfl, rfl⟩))
    refine (Crc.Rev_any c _).mono ?_
    rintro e w9 ⟨rfl, rfl⟩
    have hB : ∀ {A C : World}, Below (w.heap.size + 1) A C → Below w.heap.size A C := fun h => h.mono (Nat.le_succ _)
    have kR1 := (kR.drew.below b1 (Nat.lt_succ_self _)).below b2 (Nat.lt_succ_self _)
    have kR5 := ((kR1.below b3 (Nat.lt_succ_self _)).below b5 (Nat.lt_succ_self _)).alloc (.cells #[.int .i64 (a1.toNat : Int), .int .u64 (getN X2 : Int), .int .u64 (getN X3 : Int)] 166)
    have kR7 := kR5.below b7 (Nat.lt_succ_self _)
    have hlt := t4.lt
    have kX := Blk.new w5 166 #[.int .i64 (a1.toNat : Int), .int .u64 (getN X2 : Int), .int .u64 (getN X3 : Int)]
    have kX7 := n7 _ _ _ (by omega) kX
    have hx5 : w.heap.size ≠ w5.heap.size := by omega
    have B7 : Below w.heap.size w w7 := ((B1.drew.trans (hB b1)).trans ((hB b2).trans ((hB b3).trans (hB b5)))).trans (((Below.refl _ w5).alloc (by omega) (.cells #[.int .i64 (a1.toNat : Int), .int .u64 (getN X2 : Int), .int .u64 (getN X3 : Int)] 166)).trans (hB b7))
    generalize w5.heap.size = A5 at *
    have t5c := t5.cell 0
    clear n1 n2 n3 n5 n7 t1 t2 t3 t4 b1 b2 b3 b5 b7 kR1 kR5 kX kT kT' kR B1 hB
    have r0 := kR7.cell 0
    have r1 := kR7.cell 1
    have r2 := kR7.cell 2
    have f0 := kR7.frozen 0
    have f1 := kR7.frozen 1
    have f2 := kR7.frozen 2
    go_wp2
    exact dec_end s w _ _ 0 0 0 6 rfl rfl rfl (dec_sets kR7 _ _ _) (dec_bel B7 _ _ _) hd
end Go.Proofs.YtebkeocpojlepaaGreatDoor

/- record.Decode: bytes that begin as a record. -/
namespace Go.Proofs.YtebkeocpojlepaaGreatDoor
open Go.RowKit
set_option linter.unusedVariables false
set_option linter.unusedSimpArgs false

set_option maxHeartbeats 4000000 in
theorem Decode_main (s : ByteArray) (hs : s.size = 24) (hbl : blankS s = false) (hmg : byteAt s 0 = 165) (w : World) :
    Calls Tryz.prog 141 #[.string s] w fun e w' => e = .returned (decV s) ∧ Below w.heap.size w w' := by
  have hd : dec s = if Crc.rev32 (BitVec.ofNat 32 (getN (s.extract 18 22))) ≠ Crc.rangeW s 0 18 then (0, 0, 0, 7)
      else if (byteAt s 1).toNat < 1 ∨ 3 < (byteAt s 1).toNat then (0, 0, 0, 8)
      else if s.extract 22 24 ≠ ⟨#[90, 60]⟩ then (0, 0, 0, 9) else ((byteAt s 1).toNat, getN (s.extract 2 10), getN (s.extract 10 18), 0) := by
    unfold dec; rw [if_neg (by simp [hs]), if_neg (by simp [hbl]), if_neg (by simp [hmg])]
  have hm : s.size ≤ 1000 := by omega
  have hmx : s.size ≤ maxLen := by unfold maxLen; omega
  have e0 : s.extract 0 s.size = s := by simp
  have x0 := ext_one s 0 (by omega)
  have x1 := ext_one s 1 (by omega)
  obtain ⟨X2, x2⟩ : ∃ X, s.extract 2 10 = X := ⟨_, rfl⟩
  obtain ⟨X3, x3⟩ : ∃ X, s.extract 10 18 = X := ⟨_, rfl⟩
  obtain ⟨X4, x4⟩ : ∃ X, s.extract 18 22 = X := ⟨_, rfl⟩
  have z2 : X2.size ≤ 8 := by rw [← x2, ext_size s 2 10 (by omega) (by omega)]; omega
  have z3 : X3.size ≤ 8 := by rw [← x3, ext_size s 10 18 (by omega) (by omega)]; omega
  have z4 : X4.size ≤ 8 := by rw [← x4, ext_size s 18 22 (by omega) (by omega)]; omega
  obtain ⟨c, hc⟩ := get4 X4 (by rw [← x4, ext_size s 18 22 (by omega) (by omega)])
  have hG4 : ∀ W, Calls Tryz.prog 67 #[.string X4] W fun e w' => e = .returned (.int .u64 (c.toNat : Int)) ∧ W = w' := fun W => by rw [← hc]; exact Get_any X4 z4 W
  have hcl := c.isLt
  clear z4
  obtain ⟨a0, ha0⟩ : ∃ a0, byteAt s 0 = a0 := ⟨_, rfl⟩
  obtain ⟨a1, ha1⟩ : ∃ a1, byteAt s 1 = a1 := ⟨_, rfl⟩
  rw [ha0] at x0
  rw [ha1] at x1
  have hne : (((a0.toNat : Nat) : Int) != 165) = false := by
    rw [ha0] at hmg; rw [hmg]; rfl
  obtain ⟨X5, x5⟩ : ∃ X, s.extract 22 24 = X := ⟨_, rfl⟩
  obtain ⟨R0, hR0⟩ : ∃ R, Crc.rangeW s 0 18 = R := ⟨_, rfl⟩
  have hRg : ∀ W, Calls Tryz.prog 150 #[.string s, .int .i64 0, .int .i64 18] W fun e w' => e = .returned (Crc.u32 R0) ∧ Below W.heap.size W w' := fun W => by rw [← hR0]; exact Crc.Range_any s hmx 0 18 W
  rw [x2, x3, x4, x5, hc, hR0, ha1, BitVec.ofNat_toNat, BitVec.setWidth_eq] at hd
  have HD := Lib.hid hd
  clear hd hc hmg
  go_enter Tryz.func141, Tryz.ntmps141
  go_wp2_with (first | (with_reducible refine (Blank_any _ _).mono ?_; rintro e w1 ⟨rfl, rfl⟩))
  have kR := (Blk.new w 166 #[.int .i64 0, .int .u64 0, .int .u64 0]).alloc (.cells #[.string s] 229)
  have kT : Blk ((w.alloc (.cells #[.int .i64 0, .int .u64 0, .int .u64 0] 166)).alloc (.cells #[.string s] 229)) (w.heap.size + 1) 229 #[.string (s.extract 0 s.size)] := by
    rw [e0]; have h := Blk.new (w.alloc (.cells #[.int .i64 0, .int .u64 0, .int .u64 0] 166)) 229 #[.string s]
    rwa [World.size_alloc] at h
  have B1 : Below w.heap.size w ((w.alloc (.cells #[.int .i64 0, .int .u64 0, .int .u64 0] 166)).alloc (.cells #[.string s] 229)) := ((Below.refl _ w).alloc (Nat.le_refl _) _).alloc (by simp) _
  generalize ((w.alloc (.cells #[.int .i64 0, .int .u64 0, .int .u64 0] 166)).alloc (.cells #[.string s] 229)) = W0 at *
  have kT' := kT.drew
  have h256 : a1.toNat < 256 := a1.toNat_lt
  have hi0 : ((⟨#[a0]⟩ : ByteArray)[0]'(Nat.zero_lt_one)) = a0 := rfl
  have hi1 : ((⟨#[a1]⟩ : ByteArray)[0]'(Nat.zero_lt_one)) = a1 := rfl
  go_region_with (first | (with_reducible refine (take_lit s 0 1 (w.heap.size + 1) 1 rfl _ 1 rfl x0 (by omega) hm _ kT').mono ?_; rintro e w1 ⟨rfl, t1, b1, n1⟩) | (with_reducible refine (take_lit s 1 1 (w.heap.size + 1) 1 rfl _ 2 rfl x1 (by omega) hm _ t1).mono ?_; rintro e w2 ⟨rfl, t2, b2, n2⟩))
  all_goals
    go_wp2_with (first | (with_reducible refine (take_lit s 2 8 (w.heap.size + 1) 8 rfl _ 10 rfl x2 (by omega) hm _ t2).mono ?_; rintro e w3 ⟨rfl, t3, b3, n3⟩) | (with_reducible refine (Get_any X2 z2 _).mono ?_; rintro e w4 ⟨rfl, rfl⟩) | (with_reducible refine (take_lit s 10 8 (w.heap.size + 1) 8 rfl _ 18 rfl x3 (by omega) hm _ t3).mono ?_; rintro e w5 ⟨rfl, t4, b5, n5⟩) | (with_reducible refine (Get_any X3 z3 _).mono ?_; rintro e w6 ⟨rfl, rfl⟩) | (with_reducible refine (take_lit s 18 4 (w.heap.size + 1) 4 rfl _ 22 rfl x4 (by omega) hm _ (t4.alloc _)).mono ?_; rintro e w7 ⟨rfl, t5, b7, n7⟩) | (with_reducible refine (hG4 _).mono ?_; rintro e w8 ⟨rfl, rfl⟩))
    refine (Crc.Rev_any c _).mono ?_
    rintro e w9 ⟨rfl, rfl⟩
    have hB : ∀ {A C : World}, Below (w.heap.size + 1) A C → Below w.heap.size A C := fun h => h.mono (Nat.le_succ _)
    have kR1 := (kR.drew.below b1 (Nat.lt_succ_self _)).below b2 (Nat.lt_succ_self _)
    have kR5 := ((kR1.below b3 (Nat.lt_succ_self _)).below b5 (Nat.lt_succ_self _)).alloc (.cells #[.int .i64 (a1.toNat : Int), .int .u64 (getN X2 : Int), .int .u64 (getN X3 : Int)] 166)
    have kR7 := kR5.below b7 (Nat.lt_succ_self _)
    have hlt := t4.lt
    have kX := Blk.new w5 166 #[.int .i64 (a1.toNat : Int), .int .u64 (getN X2 : Int), .int .u64 (getN X3 : Int)]
    have kX7 := n7 _ _ _ (by omega) kX
    have hx5 : w.heap.size ≠ w5.heap.size := by omega
    have B7 : Below w.heap.size w w7 := ((B1.drew.trans (hB b1)).trans ((hB b2).trans ((hB b3).trans (hB b5)))).trans (((Below.refl _ w5).alloc (by omega) (.cells #[.int .i64 (a1.toNat : Int), .int .u64 (getN X2 : Int), .int .u64 (getN X3 : Int)] 166)).trans (hB b7))
    generalize w5.heap.size = A5 at *
    have t5c := t5.cell 0
    clear n1 n2 n3 n5 n7 t1 t2 t3 t4 b1 b2 b3 b5 b7 kR1 kR5 kX kT kT' kR B1 hB
    have r0 := kR7.cell 0
    have r1 := kR7.cell 1
    have r2 := kR7.cell 2
    have f0 := kR7.frozen 0
    have f1 := kR7.frozen 1
    have f2 := kR7.frozen 2
    rw [hs, x5] at t5
    go_wp2_with (with_reducible refine (hRg _).mono ?_)
    rintro e w10 ⟨rfl, b9⟩
    have t6 := (t5.below b9 t5.lt).cell 0
    have kR8 := kR7.below b9 kR7.lt
    have kX8 := kX7.below b9 kX7.lt
    have B8 := B7.trans (b9.mono B7.size)
    clear t5 t5c kR7 kX7 B7 b9 r0 r1 r2 f0 f1 f2
    have r0 := kR8.cell 0
    have r1 := kR8.cell 1
    have r2 := kR8.cell 2
    have f0 := kR8.frozen 0
    have f1 := kR8.frozen 1
    have f2 := kR8.frozen 2
    have y0 := kX8.cell 0
    have y1 := kX8.cell 1
    have y2 := kX8.cell 2
    by_cases hk : Crc.rev32 c = R0
    · have g1 : (((Crc.rev32 c).toNat : Int) != (R0.toNat : Int)) = false := by rw [hk]; simp
      by_cases hk2 : a1.toNat < 1 ∨ 3 < a1.toNat
      · have hd : dec s = (0, 0, 0, 8) := by rw [HD.out, if_neg (by simp [hk]), if_pos hk2]
        rcases hk2 with hk2 | hk2
        · go_wp2
          exact dec_end s w _ _ 0 0 0 8 rfl rfl rfl (dec_sets kR8 _ _ _) (dec_bel B8 _ _ _) hd
        · go_wp2
          exact dec_end s w _ _ 0 0 0 8 rfl rfl rfl (dec_sets kR8 _ _ _) (dec_bel B8 _ _ _) hd
      · have g2 : decide ((a1.toNat : Int) < 1) = false := by simp; omega
        have g3 : decide (3 < (a1.toNat : Int)) = false := by simp; omega
        by_cases hk3 : X5 = ⟨#[90, 60]⟩
        · have hd : dec s = (a1.toNat, getN X2, getN X3, 0) := by rw [HD.out, if_neg (by simp [hk]), if_neg hk2, if_neg (by simp [hk3])]
          subst hk3
          clear hk2
          go_wp2
          exact dec_end s w _ _ a1.toNat (getN X2) (getN X3) 0 rfl rfl rfl (dec_sets (dec_sets kR8 _ _ _) _ _ _) (dec_bel (dec_bel B8 _ _ _) _ _ _) hd
        · have hd : dec s = (0, 0, 0, 9) := by rw [HD.out, if_neg (by simp [hk]), if_neg hk2, if_pos hk3]
          have g4 : (!X5.toList == [90, 60]) = true := by
            rw [toList_data]; simp; intro h; exact hk3 (ByteArray.ext (Array.ext' h))
          clear hk2
          go_wp2
          exact dec_end s w _ _ 0 0 0 9 rfl rfl rfl (dec_sets kR8 _ _ _) (dec_bel B8 _ _ _) hd
    · have hd : dec s = (0, 0, 0, 7) := by rw [HD.out, if_pos hk]
      have g1 : (((Crc.rev32 c).toNat : Int) != (R0.toNat : Int)) = true := by
        simp; intro h; exact hk (BitVec.eq_of_toNat_eq (by omega))
      go_wp2
      exact dec_end s w _ _ 0 0 0 7 rfl rfl rfl (dec_sets kR8 _ _ _) (dec_bel B8 _ _ _) hd
end Go.Proofs.YtebkeocpojlepaaGreatDoor

/- record.Decode at any bytes; record.Good. -/
namespace Go.Proofs.YtebkeocpojlepaaGreatDoor
open Go.RowKit
set_option linter.unusedVariables false
set_option linter.unusedSimpArgs false

theorem Decode_any (s : ByteArray) (hm : s.size ≤ maxLen) (w : World) :
    Calls Tryz.prog 141 #[.string s] w fun e w' => e = .returned (decV s) ∧ Below w.heap.size w w' := by
  by_cases hs : s.size = 24
  · by_cases hbl : blankS s = true
    · have hd : dec s = (0, 0, 0, 5) := by unfold dec; rw [if_neg (by simp [hs]), if_pos hbl]
      have kR := Blk.new w 166 #[.int .i64 0, .int .u64 0, .int .u64 0]
      have B1 : Below w.heap.size w (w.alloc (.cells #[.int .i64 0, .int .u64 0, .int .u64 0] 166)) := (Below.refl _ w).alloc (Nat.le_refl _) _
      go_enter Tryz.func141, Tryz.ntmps141
      go_wp2_with (first | (with_reducible refine (Blank_any _ _).mono ?_; rintro e w1 ⟨rfl, rfl⟩))
      exact dec_end s w _ _ 0 0 0 5 rfl rfl rfl kR B1 hd
    · by_cases hmg : byteAt s 0 = 165
      · exact Decode_main s hs (by simpa using hbl) hmg w
      · exact Decode_magic s hs (by simpa using hbl) hmg w
  · have hd : dec s = (0, 0, 0, 1) := by unfold dec; rw [if_pos hs]
    have hne : ((s.size : Int) != 24) = true := by simp; omega
    have kR := Blk.new w 166 #[.int .i64 0, .int .u64 0, .int .u64 0]
    have B1 : Below w.heap.size w (w.alloc (.cells #[.int .i64 0, .int .u64 0, .int .u64 0] 166)) := (Below.refl _ w).alloc (Nat.le_refl _) _
    go_enter Tryz.func141, Tryz.ntmps141
    go_wp2
    exact dec_end s w _ _ 0 0 0 1 rfl rfl rfl kR B1 hd

def goodB (s : ByteArray) : Bool := decide (decE s = 0)
theorem dec_good (s : ByteArray) (h : decE s = 0) : 1 ≤ decK s := by
  unfold decE at h
  unfold decK
  revert h
  unfold dec
  repeat' split
  all_goals simp
  omega

end Go.Proofs.YtebkeocpojlepaaGreatDoor

/- Records: encoding and decoding are each other's inverse; plain laws. -/
namespace Go.Proofs.YtebkeocpojlepaaGreatDoor
open Go.RowKit
set_option linter.unusedVariables false
set_option linter.unusedSimpArgs false

theorem bytes_list {s t : ByteArray} (h : s.data.toList = t.data.toList) : s = t := ByteArray.ext (Array.ext' h)
theorem ext_list' (s : ByteArray) (a b : Nat) : (s.extract a b).data.toList = (s.data.toList.drop a).take (b - a) := by
  rw [ByteArray.data_extract, Array.toList_extract]

theorem enc_list (k : Int) (n d : Nat) : (encB k n d).data.toList = headL k n d ++ Crc.lowL (Crc.sumS (headB k n d)) ++ [90, 60] := by
  unfold encB bodyB; rw [ByteArray.data_append]; simp

theorem head_length (k : Int) (n d : Nat) : (headL k n d).length = 18 := by simp [headL, putL_length]
theorem low_length (x : Crc.W) : (Crc.lowL x).length = 4 := rfl

theorem rev_rev (x : Crc.W) : Crc.rev32 (Crc.rev32 x) = x := by
  apply BitVec.eq_of_getLsbD_eq
  intro i hi
  have h := fun y (j : Nat) (hj : j < 8) => Crc.rev_at y j hj
  rcases (show i < 8 ∨ (8 ≤ i ∧ i < 16) ∨ (16 ≤ i ∧ i < 24) ∨ 24 ≤ i from by omega) with h1 | ⟨h1, h2⟩ | ⟨h1, h2⟩ | h1
  · rw [(h (Crc.rev32 x) i h1).2.2.2, (h x i h1).1]
  · obtain ⟨j, rfl⟩ : ∃ j, i = 8 + j := ⟨i - 8, by omega⟩
    rw [(h (Crc.rev32 x) j (by omega)).2.2.1, (h x j (by omega)).2.1]
  · obtain ⟨j, rfl⟩ : ∃ j, i = 16 + j := ⟨i - 16, by omega⟩
    rw [(h (Crc.rev32 x) j (by omega)).2.1, (h x j (by omega)).2.2.1]
  · obtain ⟨j, rfl⟩ : ∃ j, i = 24 + j := ⟨i - 24, by omega⟩
    rw [(h (Crc.rev32 x) j (by omega)).1, (h x j (by omega)).2.2.2]

theorem get_low (x : Crc.W) : BitVec.ofNat 32 (getL (Crc.lowL x)) = Crc.rev32 x := by
  rw [← Crc.putL_rev, getL_putL]
  apply BitVec.eq_of_toNat_eq
  have := (Crc.rev32 x).isLt
  rw [BitVec.toNat_ofNat, Nat.mod_eq_of_lt (a := (Crc.rev32 x).toNat) (by exact this), Nat.mod_eq_of_lt this]

/-- four bytes are a word's just if they tell it -/
theorem check_iff (l : List UInt8) (hl : l.length = 4) (x : Crc.W) : Crc.rev32 (BitVec.ofNat 32 (getL l)) = x ↔ l = Crc.lowL x := by
  constructor
  · intro h
    refine getL_inj _ _ (by rw [hl]; rfl) ?_
    rw [← h]
    have := getL_lt l
    rw [hl] at this
    have e : (BitVec.ofNat 32 (getL l)).toNat = getL l := by rw [BitVec.toNat_ofNat, Nat.mod_eq_of_lt (by exact this)]
    have e2 := get_low (Crc.rev32 (BitVec.ofNat 32 (getL l)))
    rw [rev_rev] at e2
    have h2 := getL_lt (Crc.lowL (Crc.rev32 (BitVec.ofNat 32 (getL l))))
    rw [low_length] at h2
    have e3 := congrArg BitVec.toNat e2
    rw [BitVec.toNat_ofNat, Nat.mod_eq_of_lt (by exact h2), e] at e3
    exact e3.symm
  · rintro rfl
    rw [get_low, rev_rev]

theorem range18 (s : ByteArray) (h : s.size = 24) : Crc.rangeW s 0 18 = Crc.sum (s.data.toList.take 18) := by
  rw [Crc.rangeW_some s 0 18 0 18 (by decide) (by rw [h]; decide) (by decide)]
  unfold Crc.sumS
  rw [ext_list', List.drop_zero]

theorem blank_not (s : ByteArray) (h : s.size = 24) (h2 : byteAt s 0 = 165) : blankS s = false := by
  unfold blankS
  rw [List.all_eq_false]
  refine ⟨165, ?_, by decide⟩
  rw [← h2]
  unfold byteAt
  have : 0 < s.data.toList.length := by simp; have : s.size = s.data.size := rfl; omega
  rw [List.getD_eq_getElem?_getD, List.getElem?_eq_getElem this]
  exact List.getElem_mem this

/-- bytes with a whole body: what is told -/
theorem dec_body (k : Int) (n d : Nat) (m : ByteArray) (hm : m.size = 2) (h1 : 1 ≤ k) (h3 : k ≤ 3) (hn : n < 18446744073709551616) (hd : d < 18446744073709551616) :
    dec (bodyB k n d ++ m) = if m = ⟨#[90, 60]⟩ then (k.toNat, n, d, 0) else (0, 0, 0, 9) := by
  have hl : (bodyB k n d ++ m).data.toList = headL k n d ++ Crc.lowL (Crc.sumS (headB k n d)) ++ m.data.toList := by
    unfold bodyB; rw [ByteArray.data_append]; simp
  have hml : m.data.toList.length = 2 := by simpa using hm
  have hsz : (bodyB k n d ++ m).size = 24 := by rw [ByteArray.size_append, bodyB_size, hm]
  have hh := head_length k n d
  have hlo := low_length (Crc.sumS (headB k n d))
  generalize hs : bodyB k n d ++ m = s at *
  have hx : headL k n d = 165 :: kindB k :: (putL n 8 ++ putL d 8) := by simp [headL]
  have b0 : byteAt s 0 = 165 := by unfold byteAt; rw [hl, hx]; rfl
  have b1 : byteAt s 1 = kindB k := by unfold byteAt; rw [hl, hx]; rfl
  have hk : (kindB k).toNat = k.toNat := by
    have := kindB_int k
    omega
  have g1 : getN (s.extract 2 10) = n := by
    unfold getN; rw [ext_list', hl, hx]
    have : ((165 :: kindB k :: (putL n 8 ++ putL d 8) ++ Crc.lowL (Crc.sumS (headB k n d)) ++ m.data.toList).drop 2).take 8 = putL n 8 := by
      simp [putL_length]
    rw [this, getL_putL]; exact Nat.mod_eq_of_lt hn
  have g2 : getN (s.extract 10 18) = d := by
    unfold getN; rw [ext_list', hl, hx]
    have : ((165 :: kindB k :: (putL n 8 ++ putL d 8) ++ Crc.lowL (Crc.sumS (headB k n d)) ++ m.data.toList).drop 10).take 8 = putL d 8 := by
      rw [show (165 :: kindB k :: (putL n 8 ++ putL d 8) ++ Crc.lowL (Crc.sumS (headB k n d)) ++ m.data.toList) = ([165, kindB k] ++ putL n 8) ++ (putL d 8 ++ (Crc.lowL (Crc.sumS (headB k n d)) ++ m.data.toList)) by simp]
      rw [List.drop_left' (by simp [putL_length]), List.take_left' (by simp [putL_length])]
    rw [this, getL_putL]; exact Nat.mod_eq_of_lt hd
  have g3 : getN (s.extract 18 22) = getL (Crc.lowL (Crc.sumS (headB k n d))) := by
    unfold getN; rw [ext_list', hl, List.append_assoc, List.drop_left' hh, List.take_left' hlo]
  have g4 : s.extract 22 24 = m := bytes_list (by
    rw [ext_list', hl, List.drop_left' (by simp [hh, hlo]), List.take_of_length_le (by omega)])
  have g5 : Crc.rangeW s 0 18 = Crc.sumS (headB k n d) := by
    rw [range18 s hsz, hl, List.append_assoc, List.take_left' hh]; rfl
  unfold dec
  rw [if_neg (by simp [hsz]), if_neg (by rw [blank_not s hsz b0]; simp), if_neg (by simp [b0]), if_neg (by rw [g3, g5, get_low, rev_rev]; simp), if_neg (by rw [b1, hk]; omega), g4, g1, g2, b1, hk]
  by_cases e : m = ⟨#[90, 60]⟩ <;> simp [e]

theorem dec_enc (k : Int) (n d : Nat) (h1 : 1 ≤ k) (h3 : k ≤ 3) (hn : n < 18446744073709551616) (hd : d < 18446744073709551616) : dec (encB k n d) = (k.toNat, n, d, 0) := by
  unfold encB
  rw [dec_body k n d _ rfl h1 h3 hn hd, if_pos rfl]

theorem dec_size (s : ByteArray) (h : decE s = 0) : s.size = 24 := by
  unfold decE dec at h
  by_cases e : s.size = 24
  · exact e
  · rw [if_pos e] at h; simp at h

theorem dec_facts (s : ByteArray) (h : decE s = 0) : byteAt s 0 = 165 ∧ s.data.toList.drop 18 = Crc.lowL (Crc.sum (s.data.toList.take 18)) ++ [90, 60] ∧ 1 ≤ (byteAt s 1).toNat ∧ (byteAt s 1).toNat ≤ 3
    ∧ dec s = ((byteAt s 1).toNat, getN (s.extract 2 10), getN (s.extract 10 18), 0) := by
  have hs := dec_size s h
  have hl : s.data.toList.length = 24 := by simpa using hs
  have hr := range18 s hs
  unfold decE at h
  revert h
  unfold dec
  rw [if_neg (by simp [hs])]
  split
  · simp
  split
  · simp
  rename_i h0
  split
  · simp
  rename_i h1
  split
  · simp
  rename_i h2
  split
  · simp
  rename_i h3
  intro _
  have h1' : Crc.rev32 (BitVec.ofNat 32 (getN (s.extract 18 22))) = Crc.rangeW s 0 18 := Decidable.of_not_not h1
  have h3' : s.extract 22 24 = ⟨#[90, 60]⟩ := Decidable.of_not_not h3
  unfold getN at h1'
  rw [ext_list', hr, check_iff _ (by simp [hl])] at h1'
  have h4 := congrArg (fun x : ByteArray => x.data.toList) h3'
  simp only [ext_list'] at h4
  refine ⟨Decidable.of_not_not h0, ?_, by omega, by omega, rfl⟩
  rw [← h1', ← h4]
  have e : (s.data.toList.drop 22).take (24 - 22) = (s.data.toList.drop 18).drop 4 := by rw [List.drop_drop, List.take_of_length_le (by simp [hl])]
  rw [e]
  exact (List.take_append_drop 4 _).symm

theorem take_two : ∀ (L : List UInt8), L.length = 24 → L.take 2 = [L.getD 0 0, L.getD 1 0]
  | [], h => by simp at h
  | [a], h => by simp at h
  | a :: b :: l, _ => rfl

theorem enc_dec (s : ByteArray) (h : decE s = 0) : encB (decK s : Int) (decN s) (decD s) = s := by
  have hs := dec_size s h
  have hl : s.data.toList.length = 24 := by simpa using hs
  obtain ⟨h0, h1, h2, h3, hd⟩ := dec_facts s h
  have eK : decK s = (byteAt s 1).toNat := by unfold decK; rw [hd]
  have eN : decN s = getN (s.extract 2 10) := by unfold decN; rw [hd]
  have eD : decD s = getN (s.extract 10 18) := by unfold decD; rw [hd]
  have e2 : putL (getN (s.extract 2 10)) 8 = (s.data.toList.drop 2).take 8 := by
    refine getL_inj _ _ (by simp [putL_length, hl]) ?_
    have hz := getL_lt (s.extract 2 10).data.toList
    have hz2 : (s.extract 2 10).data.toList.length = 8 := by rw [ext_list']; simp [hl]
    rw [hz2] at hz
    rw [getL_putL, getN, Nat.mod_eq_of_lt hz, ext_list']
  have e3 : putL (getN (s.extract 10 18)) 8 = (s.data.toList.drop 10).take 8 := by
    refine getL_inj _ _ (by simp [putL_length, hl]) ?_
    have hz := getL_lt (s.extract 10 18).data.toList
    have hz2 : (s.extract 10 18).data.toList.length = 8 := by rw [ext_list']; simp [hl]
    rw [hz2] at hz
    rw [getL_putL, getN, Nat.mod_eq_of_lt hz, ext_list']
  have hk : kindB ((byteAt s 1).toNat : Int) = byteAt s 1 := by
    apply UInt8.toNat_inj.1
    have := kindB_int ((byteAt s 1).toNat : Int)
    have := (byteAt s 1).toNat_lt
    omega
  have hh : headL (decK s : Int) (decN s) (decD s) = s.data.toList.take 18 := by
    unfold headL
    rw [eK, eN, eD, e2, e3, hk, ← h0]
    have q1 : s.data.toList.take 18 = s.data.toList.take 10 ++ (s.data.toList.drop 10).take 8 := List.take_add (i := 10) (j := 8)
    have q2 : s.data.toList.take 10 = s.data.toList.take 2 ++ (s.data.toList.drop 2).take 8 := List.take_add (i := 2) (j := 8)
    have q3 : s.data.toList.take 2 = [byteAt s 0, byteAt s 1] := take_two _ hl
    rw [q1, q2, q3]
  apply bytes_list
  rw [enc_list]
  have hsum : Crc.sumS (headB (decK s : Int) (decN s) (decD s)) = Crc.sum (s.data.toList.take 18) := by
    unfold Crc.sumS headB; rw [← hh]
  rw [hsum, hh, List.append_assoc, ← h1]
  exact List.take_append_drop 18 _
end Go.Proofs.YtebkeocpojlepaaGreatDoor

/- Texts of blank bytes. -/
namespace Go.Proofs.YtebkeocpojlepaaGreatDoor
open Go.RowKit
set_option linter.unusedVariables false
set_option linter.unusedSimpArgs false

def fullB (n : Nat) : ByteArray := ⟨(List.replicate n (255 : UInt8)).toArray⟩
theorem fullB_size (n : Nat) : (fullB n).size = n := by show (List.replicate n (255 : UInt8)).toArray.size = n; simp
theorem fullB_succ (k : Nat) : fullB k ++ ⟨#[255]⟩ = fullB (k + 1) := by
  unfold fullB
  apply ByteArray.ext
  rw [ByteArray.data_append]
  apply Array.ext'
  simp [List.replicate_succ']

end Go.Proofs.YtebkeocpojlepaaGreatDoor

/- flash.caught, as a deferred call: of a frame that panics with an Errno; of a frame that returns. -/
namespace Go.Proofs.YtebkeocpojlepaaGreatDoor
open Go.RowKit
set_option linter.unusedVariables false
set_option linter.unusedSimpArgs false

theorem typeAssert_errno (n : Int) (w : World) : (Instr.typeAssert (.iface 40 (.int .i64 n)) 20 40 true).run Tryz.prog w = .ok (.tuple #[.int .i64 n, .bool true]) w := by
  simp [Instr.typeAssert, go_sem, Tryz.underlying40]

theorem caught_panicking (p : Addr) (x n : Int) (older : List PanicEntry) (w : World) (hc : w.cell? p = some (.int .i64 x)) (hz : w.frozen? p = false) :
    CallsD Tryz.prog 137 #[.pointer (some p)] (.panicking ({ v := .iface 40 (.int .i64 n), recovered := false } :: older)) w fun e u' w' =>
      e = .returned (.tuple #[]) ∧ u' = .panicking ({ v := .iface 40 (.int .i64 n), recovered := true } :: older) ∧ w' = w.setCell p (.int .i64 n) := by
  have hta := typeAssert_errno n
  refine callsD_of_wpS Tryz.func137 rfl fun c₀ cs hu => ?_
  apply wpS_seq
  apply wpS_region
  simp [wpOpsS, go_sem, recoverD, hu, Tryz.ntmps137, Exit.thenS, Array.replicate_succ]
  refine wpS_of_wp ?_
  go_wp2
  simp [bodyPostS, results, Tryz.results137]

theorem caught_idle (p : Addr) (w : World) :
    CallsD Tryz.prog 137 #[.pointer (some p)] .returning w fun e u' w' => e = .returned (.tuple #[]) ∧ u' = .returning ∧ w' = w := by
  refine callsD_of_wpS Tryz.func137 rfl fun c₀ cs hu => ?_
  apply wpS_seq
  apply wpS_region
  simp [wpOpsS, go_sem, recoverD, hu, Tryz.ntmps137, Exit.thenS, Array.replicate_succ]
  refine wpS_of_wp ?_
  go_wp2
  cases c₀
  simp_all [bodyPostS, results, Tryz.results137]
end Go.Proofs.YtebkeocpojlepaaGreatDoor

/- flash.cut: what it answers, and what it throws. -/
namespace Go.Proofs.YtebkeocpojlepaaGreatDoor
open Go.RowKit
set_option linter.unusedVariables false
set_option linter.unusedSimpArgs false

/-- a flash, as a value; and its cells -/
abbrev flashC (a b : ByteArray) (x y l : Int) : Array Value := #[.string a, .string b, .int .i64 x, .int .i64 y, .int .i64 l]
abbrev flashV (a b : ByteArray) (x y l : Int) : Value := .agg #[.string a, .string b, .int .i64 x, .int .i64 y, .int .i64 l]

theorem bv_one (x : BitVec 64) (h : x &&& ~~~1#64 = 0#64) : x.toNat < 2 := by
  have e : x = x &&& 1#64 := by
    apply BitVec.eq_of_getLsbD_eq
    intro i hi
    have := congrArg (fun y => y.getLsbD i) h
    have h1 : (1#64).getLsbD i = decide (i = 0) := by simp [BitVec.getLsbD_one]
    rw [BitVec.getLsbD_and, BitVec.getLsbD_not, h1] at this
    rw [BitVec.getLsbD_and, h1]
    by_cases e : i = 0 <;> simp [e, hi] at this ⊢
    exact this
  rw [e, BitVec.toNat_and]
  show x.toNat &&& 1 < 2
  rw [Nat.and_one_is_mod]; omega

theorem bank_bad (b : Int) (hb : (Lit.int .i64 b).wf = true) (h0 : b ≠ 0) (h1 : b ≠ 1) : (bits .andNot .i64 b 1 != 0) = true := by
  rw [bne_iff_ne]
  intro h
  simp [Lit.wf, IntKind.min, IntKind.max, IntKind.signed, IntKind.bits] at hb
  have e : bits .andNot .i64 b 1 = IntKind.i64.wrap ((BitVec.ofInt 64 b &&& ~~~ BitVec.ofInt 64 1).toNat : Int) := rfl
  rw [e] at h
  have hz : (BitVec.ofInt 64 b &&& ~~~ 1#64) = 0#64 := by
    apply BitVec.eq_of_toNat_eq
    have := (BitVec.ofInt 64 b &&& ~~~ 1#64).isLt
    rw [IntKind.wrap_i64] at h
    show (BitVec.ofInt 64 b &&& ~~~ 1#64).toNat = 0
    have e2 : (BitVec.ofInt 64 b &&& ~~~ BitVec.ofInt 64 1) = (BitVec.ofInt 64 b &&& ~~~ 1#64) := rfl
    rw [e2] at h
    omega
  have h2 := bv_one _ hz
  rw [BitVec.toNat_ofInt] at h2
  omega

theorem cut_arg (a b : ByteArray) (x y l k t n : Int) (hk : (Lit.int .i64 k).wf = true) (h0 : k ≠ 0) (h1 : k ≠ 1) (w : World) :
    Calls Tryz.prog 138 #[flashV a b x y l, .int .i64 k, .int .i64 t, .int .i64 n] w fun e w' =>
      e = .panicked [{ v := .iface 40 (.int .i64 1), recovered := false }] ∧ Below w.heap.size w w' := by
  have hb := bank_bad k hk h0 h1
  go_enter Tryz.func138, Tryz.ntmps138
  go_wp2
  exact ⟨rfl, rfl, (Below.refl _ w).alloc (Nat.le_refl _) _⟩

theorem cut_bounds (a b : ByteArray) (x y l t n k : Int) (s : ByteArray) (hk : (k = 0 ∧ s = a) ∨ (k = 1 ∧ s = b)) (h : t < 0 ∨ n < 0 ∨ (s.size : Int) < t ∨ (s.size : Int) - t < n)
    (hn : (Lit.int .i64 n).wf = true) (ht : (Lit.int .i64 t).wf = true) (hs : s.size ≤ 1000) (w : World) :
    Calls Tryz.prog 138 #[flashV a b x y l, .int .i64 k, .int .i64 t, .int .i64 n] w fun e w' =>
      e = .panicked [{ v := .iface 40 (.int .i64 2), recovered := false }] ∧ Below w.heap.size w w' := by
  simp [Lit.wf, IntKind.min, IntKind.max, IntKind.signed, IntKind.bits] at hn ht
  have hcase : t < 0 ∨ (0 ≤ t ∧ n < 0) ∨ (0 ≤ t ∧ 0 ≤ n ∧ (s.size : Int) < t) ∨ (0 ≤ t ∧ 0 ≤ n ∧ t ≤ (s.size : Int) ∧ (s.size : Int) - t < n) := by omega
  clear h
  rcases hk with ⟨rfl, rfl⟩ | ⟨rfl, rfl⟩
  all_goals
    rcases hcase with h1 | ⟨h1, h2⟩ | ⟨h1, h2, h3⟩ | ⟨h1, h2, h3, h4⟩
    all_goals
      go_enter Tryz.func138, Tryz.ntmps138
      go_wp2
      exact ⟨rfl, rfl, (Below.refl _ w).alloc (Nat.le_refl _) _⟩

theorem cut_ok (a b : ByteArray) (x y l : Int) (t n : Nat) (k : Int) (s : ByteArray) (hk : (k = 0 ∧ s = a) ∨ (k = 1 ∧ s = b)) (h : t + n ≤ s.size) (hs : s.size ≤ 1000) (w : World) :
    Calls Tryz.prog 138 #[flashV a b x y l, .int .i64 k, .int .i64 (t : Int), .int .i64 (n : Int)] w fun e w' =>
      e = .returned (.tuple #[.string (s.extract 0 t), .string (s.extract t (t + n)), .string (s.extract (t + n) s.size)]) ∧ Below w.heap.size w w' := by
  have h1 : t ≤ s.size := by omega
  have h2 : n ≤ s.size - t := by omega
  rcases hk with ⟨rfl, rfl⟩ | ⟨rfl, rfl⟩
  all_goals
    go_enter Tryz.func138, Tryz.ntmps138
    go_wp2
    have h3 : (0 : Int) ≤ (t : Int) := by omega
    have h4 : (t : Int) ≤ (s.size : Int) := by omega
    have h5 : (t : Int) + (n : Int) ≤ (s.size : Int) := by omega
    have h6 : IntKind.i64.wrap ((t : Int) + (n : Int)) = (t : Int) + (n : Int) := IntWalk.i64_in _ (by omega)
    have h7 : ((t : Int) + (n : Int)).toNat = t + n := by omega
    have h8 : (0 : Int) ≤ (t : Int) + (n : Int) := by omega
    have h9 : (t : Int) ≤ (t : Int) + (n : Int) := by omega
    go_quiet (fail)
    go_wp2
    go_ret3
    exact ⟨rfl, bdrew ((Below.refl _ w).alloc (Nat.le_refl _) _) _⟩
end Go.Proofs.YtebkeocpojlepaaGreatDoor
