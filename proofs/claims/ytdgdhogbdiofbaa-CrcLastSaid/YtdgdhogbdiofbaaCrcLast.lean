/- The walk of the law CrcLast. -/
import Derived.Test.YtdgdhogbdiofbaaCrcLaws
import Derived.Test.YtdgdhogbdiofbaaCrcSwap
namespace Go.Proofs.Ytdgdhogbdiofbaa.Crc
open Go.RowKit
set_option linter.unusedVariables false

theorem conv_new (w : World) (l : List UInt8) (cells : Array Value) (n : Nat) (hn : n = l.length) (h : cells = (l.map fun b => Value.int .u8 (b.toNat : Int)).toArray) :
    (convert 23 9 (.slice (some ⟨w.heap.size, 0, none⟩) n n)).run Try.prog (w.alloc (.cells cells 5)) = .ok (.string ⟨l.toArray⟩) (w.alloc (.cells cells 5)) := by
  subst hn
  refine run_convert_bytes_back _ _ _ 5 _ _ l Try.underlying23 Try.underlying5 Try.underlying9 ?_
  intro j hj
  have e : (⟨w.heap.size, 0, none⟩ : Addr).add j = ⟨w.heap.size, j, none⟩ := by simp [Addr.add]; intro h0; rw [h0]
  rw [e, World.cell?_alloc_new, h]
  simp [hj]

/-- a word's bytes, the highest one first -/
def fourL (x : W) : List UInt8 := [UInt8.ofNat (x.toNat / 16777216), UInt8.ofNat (x.toNat / 65536 % 256), UInt8.ofNat (x.toNat / 256 % 256), UInt8.ofNat (x.toNat % 256)]
def four (x : W) : ByteArray := ⟨(fourL x).toArray⟩

theorem conv4 (x : W) (w : World) (n : Nat) (hn : n = w.heap.size) :
    (convert 23 9 (.slice (some ⟨n, 0, none⟩) 4 4)).run Try.prog (w.alloc (.cells #[.int .u8 ((x.toNat : Int) / 16777216), .int .u8 ((x.toNat : Int) / 65536 % 256), .int .u8 ((x.toNat : Int) / 256 % 256), .int .u8 ((x.toNat : Int) % 256)] 5)) =
      .ok (.string (four x)) (w.alloc (.cells #[.int .u8 ((x.toNat : Int) / 16777216), .int .u8 ((x.toNat : Int) / 65536 % 256), .int .u8 ((x.toNat : Int) / 256 % 256), .int .u8 ((x.toNat : Int) % 256)] 5)) := by
  subst hn
  have hx : x.toNat < 4294967296 := x.isLt
  refine conv_new w (fourL x) _ 4 rfl ?_
  simp only [fourL, List.map_cons, List.map_nil, UInt8.toNat_ofNat']
  rw [Nat.mod_eq_of_lt (a := x.toNat / 16777216) (by omega)]
  simp

theorem four_inj (x y : W) (h : fourL x = fourL y) : x = y := by
  have hx : x.toNat < 4294967296 := x.isLt
  have hy : y.toNat < 4294967296 := y.isLt
  simp only [fourL, List.cons.injEq, and_true] at h
  obtain ⟨h1, h2, h3, h4⟩ := h
  have g1 := congrArg UInt8.toNat h1
  have g2 := congrArg UInt8.toNat h2
  have g3 := congrArg UInt8.toNat h3
  have g4 := congrArg UInt8.toNat h4
  simp only [UInt8.toNat_ofNat'] at g1 g2 g3 g4
  exact BitVec.eq_of_toNat_eq (by omega)

theorem last_math (s : ByteArray) (x y : W) : ((((sumS (s ++ four x)).toNat : Int) == ((sumS (s ++ four y)).toNat : Int)) == ((x.toNat : Int) == (y.toNat : Int))) = true := by
  rw [beq_iff_eq, Bool.eq_iff_iff, eq_words, eq_words]
  unfold sumS
  rw [app_list, app_list]
  have h := sum_burst s.data.toList (fourL x) (fourL y) [] (by simp [fourL]) (by simp [fourL])
  simp only [List.append_nil] at h
  exact h.trans ⟨four_inj x y, fun h => by rw [h]⟩

theorem last_size (s : ByteArray) (x : W) (h : s.size ≤ 300) : (s ++ four x).size ≤ maxLen := by
  have : (four x).size = 4 := rfl
  rw [ByteArray.size_append, this]; unfold maxLen; omega

set_option maxHeartbeats 1000000 in
theorem last (s : ByteArray) (x y : Int) (hs : s.size ≤ maxLen) (hx : (Lit.int .u32 x).wf = true) (hy : (Lit.int .u32 y).wf = true) (w : World) :
    Calls Try.prog 5 #[.string s, .int .u32 x, .int .u32 y] w fun e w' => e = .returned (.bool true) ∧ Below w.heap.size w w' := by
  obtain ⟨x, rfl⟩ := word_val x hx
  obtain ⟨y, rfl⟩ := word_val y hy
  clear hx hy
  by_cases h : 300 < s.size
  · go_enter Try.func5, Try.ntmps5
    go_wp2_with (refine (shown_any _).mono ?_; rintro e w1 ⟨rfl, hb1⟩)
    go_ret
    exact ⟨rfl, hb1⟩
  · have h1 : s.size ≤ 300 := by omega
    clear h
    go_enter Try.func5, Try.ntmps5
    have cx := conv4 x
    have cy := conv4 y
    have HL := Lib.hid (last_math s x y)
    have z1 := last_size s x h1
    have z2 := last_size s y h1
    have z3 : (four x).size = 4 := rfl
    have z4 : (four y).size = 4 := rfl
    go_wp2_with (first
      | (go_at_call 8; refine (shown_any _).mono ?_; rintro e w1 ⟨rfl, hb1⟩)
      | ((with_reducible refine (Sum_any _ z1 _).mono ?_); rintro e w2 ⟨rfl, hb2⟩)
      | ((with_reducible refine (Sum_any _ z2 _).mono ?_); rintro e w3 ⟨rfl, hb3⟩))
    go_ret
    exact ⟨ret_bool HL.out, bthen (bthen ((hb1.alloc hb1.size _).alloc (by simp; exact Nat.le_succ_of_le hb1.size) _) hb2) hb3⟩
end Go.Proofs.Ytdgdhogbdiofbaa.Crc
