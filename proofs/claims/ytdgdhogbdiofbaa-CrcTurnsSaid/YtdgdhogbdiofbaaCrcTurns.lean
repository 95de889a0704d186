/- The walk of the law CrcTurns. -/
import Derived.Test.YtdgdhogbdiofbaaCrcLaws
import Derived.Test.YtdgdhogbdiofbaaCrcSwap
import Derived.Test.YtdgdhogbdiofbaaBytes
import Derived.StillTailTactics
namespace Go.Proofs.Ytdgdhogbdiofbaa.Crc
open Go.RowKit
set_option linter.unusedVariables false

/-- three texts of one length or more, put together byte by byte, as far as the first one goes -/
def x3 (a b c : ByteArray) : List UInt8 := xor3 a.data.toList (b.data.toList.take a.size) (c.data.toList.take a.size)

theorem xor3_length (l m n : List UInt8) (h : m.length = l.length) (k : n.length = l.length) : (xor3 l m n).length = l.length := by
  induction l generalizing m n with
  | nil => simp [xor3]
  | cons a l ih =>
    match m, n, h, k with
    | b :: m, x :: n, h, k => simp [xor3, ih m n (by simpa using h) (by simpa using k)]

theorem xor3_get (l m n : List UInt8) (h : m.length = l.length) (k : n.length = l.length) (i : Nat) (hi : i < l.length) :
    (xor3 l m n)[i]? = some (l[i] ^^^ m[i] ^^^ n[i]) := by
  induction l generalizing m n i with
  | nil => simp at hi
  | cons a l ih =>
    match m, n, h, k, i, hi with
    | b :: m, x :: n, h, k, 0, hi => simp [xor3]
    | b :: m, x :: n, h, k, i + 1, hi => simpa [xor3] using ih m n (by simpa using h) (by simpa using k) i (by simpa using hi)

theorem x3_at (a b c : ByteArray) (hb : a.size ≤ b.size) (hc : a.size ≤ c.size) (k : Nat) (h : k < a.size) (h2 : k < b.size) (h3 : k < c.size) :
    (x3 a b c).take (k + 1) = (x3 a b c).take k ++ [a[k] ^^^ b[k] ^^^ c[k]] := by
  have hl : (x3 a b c).length = a.size := by unfold x3; rw [xor3_length] <;> simp <;> omega
  rw [List.take_succ_eq_append_getElem (by omega)]
  congr 2
  have := xor3_get a.data.toList (b.data.toList.take a.size) (c.data.toList.take a.size) (by simp; omega) (by simp; omega) k (by simpa using h)
  have h' := List.getElem?_eq_getElem (l := x3 a b c) (i := k) (by omega)
  unfold x3 at h' ⊢
  rw [this] at h'
  simp at h'
  rw [← h']
  rfl

theorem u8_xor3 (x y z : UInt8) : bits .xor .u8 (bits .xor .u8 (x.toNat : Int) (y.toNat : Int)) (z.toNat : Int) = ((x ^^^ y ^^^ z).toNat : Int) := by
  rw [u8_xor_nat _ _ x.toNat_lt y.toNat_lt, ← UInt8.toNat_xor, u8_xor_nat _ _ (x ^^^ y).toNat_lt z.toNat_lt, ← UInt8.toNat_xor]

theorem x3_full (a b c : ByteArray) (hb : a.size ≤ b.size) (hc : a.size ≤ c.size) : (x3 a b c).length = a.size := by
  unfold x3; rw [xor3_length] <;> simp <;> omega

theorem turns_math (a b c X : ByteArray) (hb : a.size ≤ b.size) (hc : a.size ≤ c.size) (hX : X = ⟨((x3 a b c).take a.size).toArray⟩) :
    (((sumS X).toNat : Int) == bits .xor .u32 (bits .xor .u32 ((sumS a).toNat : Int) ((sumS (b.extract 0 a.size)).toNat : Int)) ((sumS (c.extract 0 a.size)).toNat : Int)) = true := by
  rw [bits_xor, bits_xor, eq_words]
  have e1 : X.data.toList = x3 a b c := by
    rw [hX, List.take_of_length_le (by rw [x3_full a b c hb hc]; exact Nat.le_refl _)]
  unfold sumS
  rw [e1, ext_list, ext_list]
  unfold x3
  simp only [List.drop_zero, Nat.sub_zero]
  exact sum_xor3 _ _ _ (by simp; omega) (by simp; omega)

theorem turns_size (a b c X : ByteArray) (ha : a.size ≤ 300) (hX : X = ⟨((x3 a b c).take a.size).toArray⟩) : X.size ≤ maxLen := by
  rw [hX]
  show (((x3 a b c).take a.size).toArray).size ≤ maxLen
  rw [List.size_toArray, List.length_take]
  unfold maxLen
  omega

set_option maxHeartbeats 1000000 in
theorem turns (a b c : ByteArray) (ha : a.size ≤ maxLen) (hb : b.size ≤ maxLen) (hc : c.size ≤ maxLen) (w : World) :
    Calls Try.prog 4 #[.string a, .string b, .string c] w fun e w' => e = .returned (.bool true) ∧ Below w.heap.size w w' := by
  by_cases h : 300 < a.size ∨ b.size < a.size ∨ c.size < a.size
  · rcases (show 300 < a.size ∨ (a.size ≤ 300 ∧ b.size < a.size) ∨ (a.size ≤ 300 ∧ a.size ≤ b.size ∧ c.size < a.size) from by omega) with h | ⟨h, h2⟩ | ⟨h, h2, h3⟩
    · go_enter Try.func4, Try.ntmps4
      go_wp2_with (refine (shown_any _).mono ?_; rintro e w1 ⟨rfl, hb1⟩)
      go_ret
      exact ⟨rfl, hb1⟩
    · go_enter Try.func4, Try.ntmps4
      go_wp2_with (refine (shown_any _).mono ?_; rintro e w1 ⟨rfl, hb1⟩)
      go_ret
      exact ⟨rfl, hb1⟩
    · go_enter Try.func4, Try.ntmps4
      go_wp2_with (refine (shown_any _).mono ?_; rintro e w1 ⟨rfl, hb1⟩)
      go_ret
      exact ⟨rfl, hb1⟩
  · have h1 : a.size ≤ 300 := by omega
    have h2 : a.size ≤ b.size := by omega
    have h3 : a.size ≤ c.size := by omega
    clear h
    have d1 : decide (b.size < a.size) = false := by simp; omega
    have d2 : decide (c.size < a.size) = false := by simp; omega
    have d3 : decide (300 < (a.size : Int)) = false := by simp; omega
    go_enter Try.func4, Try.ntmps4
    go_wp2_with (refine (shown_any _).mono ?_; rintro e w1 ⟨rfl, hb1⟩)
    go_loopw [8, 9] (fun v i wr => ∃ k : Nat, k ≤ a.size ∧ i = .int .i64 k ∧ OwnsB wr w.heap.size v ((x3 a b c).take k) ∧ Below w.heap.size w wr) (fun _ i _ => a.size - (intOf i).toNat)
    case atStart =>
      exact ⟨0, by omega, rfl, by exact World.ownsRow_lit w1 #[] 0 hb1.size (by decide) rfl, hb1.alloc hb1.size _⟩
    case round =>
      obtain ⟨k, hk, rfl, hown, hbr⟩ := hrel
      by_cases hlt : k < a.size
      · have k2 : k < b.size := by omega
        have k3 : k < c.size := by omega
        go_wp2_with fail
        have e8 := u8_xor3 a[k] b[k] c[k]
        have hln : ((x3 a b c).take k).length + 1 ≤ 140737488355328 := by rw [List.length_take]; omega
        have hbs := hbr.size
        go_region_law (refine step_append_byte (b := a[k] ^^^ b[k] ^^^ c[k]) rfl (.tmp 40) (.tmp 52) rfl rfl rfl hown (by exact ((Below.refl _ _).drew).alloc (by simp) _) (by simp) hln (by simp; omega) ?_; intro v' w2 hown2 hb2)
        all_goals
          have hx := x3_at a b c h2 h3 k hlt k2 k3
          have HX := Lib.hid hx; clear hx e8
          go_wp2
          go_roundw
          case rel => exact ⟨k + 1, by omega, by go_num, by rw [HX.out]; exact hown2, (hbr.drew.alloc (by simp; omega) _).trans hb2⟩
          case measure => simp [intOf]; omega
      · have hk2 : k = a.size := by omega
        subst hk2
        have hcv : ∀ n : CalmW wr.heap.size wr, (convert 23 9 u8).run Try.prog n.val = .ok (.string ⟨((x3 a b c).take a.size).toArray⟩) n.val := fun n => conv_own (hown.below n.below)
        obtain ⟨X, hX⟩ : ∃ X : ByteArray, X = ⟨((x3 a b c).take a.size).toArray⟩ := ⟨_, rfl⟩
        rw [← hX] at hcv
        have HX := Lib.hid hX; clear hX
        have z1 : X.size ≤ maxLen := turns_size a b c X h1 HX.out
        have z2 : (b.extract 0 a.size).size ≤ maxLen := ext_le hb
        have z3 : (c.extract 0 a.size).size ≤ maxLen := ext_le hc
        go_wp2_with fail
        (refine wp_region_calm (wr.heap.size) (by kernel_rfl) (by kernel_rfl) ?_; (repeat (go_big_quiet_step ((first | ((with_reducible refine calm_of (Nat.le_refl _) (Sum_any X z1 _))) | ((with_reducible refine calm_of (Nat.le_refl _) (Sum_any a ha _))) | ((with_reducible refine calm_of (Nat.le_refl _) (Sum_any (b.extract 0 a.size) z2 _))) | ((with_reducible refine calm_of (Nat.le_refl _) (Sum_any (c.extract 0 a.size) z3 _))))))); refine wpQuiet_nil ?_; intro _ hw'; obtain ⟨⟨W2, hW2⟩, hw''⟩ := hw'; subst hw'')
        go_wp2
        go_ret
        exact ⟨ret_bool (turns_math a b c X h2 h3 HX.out), hbr.trans (hW2.mono hbr.size)⟩
end Go.Proofs.Ytdgdhogbdiofbaa.Crc
