/- dogwatchref01.at, Torn: Torn answers a text as long as the old one (that is all that the record laws want). -/
import Derived.Test.YtclhdgolcaacbaaRecTurned
namespace Go.Proofs.Ytclhdgolcaacbaa
open Go.RowKit
set_option linter.unusedVariables false
set_option linter.unusedSimpArgs false

/-- a byte of a text, another one behind its end -/
def atB (s : ByteArray) (i : Nat) (d : UInt8) : UInt8 := s.data.toList.getD i d
theorem at_any (s : ByteArray) (i : Nat) (d : UInt8) (N : Int) (hN : N = (d.toNat : Int)) (hi : i < 1000) (w : World) :
    Calls Try.prog 34 #[.string s, .int .i64 (i : Int), .int .u8 N] w fun e w' => e = .returned (.int .u8 ((atB s i d).toNat : Int)) ∧ w = w' := by
  subst hN
  by_cases h : i < s.size
  · have e : atB s i d = s[i] := by
      unfold atB; rw [List.getD_eq_getElem?_getD, List.getElem?_eq_getElem (by simpa using h)]; rfl
    go_enter Try.func34, Try.ntmps34
    go_wp2
    go_ret
    exact ⟨ret_int (by rw [e]), rfl⟩
  · have e : atB s i d = d := by
      unfold atB; rw [List.getD_eq_getElem?_getD, List.getElem?_eq_none (by simpa using h)]; rfl
    go_enter Try.func34, Try.ntmps34
    go_wp2
    go_ret
    exact ⟨ret_int (by rw [e]), rfl⟩

/-- append of one byte to a row of the call's own, in a region that draws no order -/
theorem list_append_byte {ops : Array Oper} {rest : List Oper} {o : Oper} {a : Act} {Q : Exit → Act → World → Prop} (w : World) (hgd : o.guard = none) (s x : Operand)
    (hop : o.op = .call { callee := .builtin .append, args := #[s, x], argTypes := #[41, 41] })
    {base : Nat} {v : Value} {l : List UInt8} {b : UInt8} {g : Nat} (hs : a.eval s = v) (hx : a.eval x = .slice (some ⟨g, 0, none⟩) 1 1)
    (hown : OwnsB w base v l) (hc : w.cell? ⟨g, 0, none⟩ = some (.int .u8 (b.toNat : Int))) (hlen : l.length + 1 ≤ 140737488355328) (hbase : base ≤ w.heap.size)
    (hK : ∀ v' w', OwnsB w' base v' (l ++ [b]) → Below base w w' → wpList Try.prog ops Q rest (a.put o.dst v') w') : wpList Try.prog ops Q (o :: rest) a w := by
  obtain ⟨i0, hi, hz0, hz1, hz2⟩ := info_parts infoB
  refine wpList_plain hgd fun K hKK => ?_
  refine wp_append_own w s x 41 hop base 5 i0 (.int .u8 0) 1 1 Try.underlying41 hi hz0 hz1 hz2 rfl (by decide) v l.length (bcells l) hs hown ⟨g, 0, none⟩ 1 1 [.int .u8 (b.toNat : Int)] hx rfl ?_ ?_ ?_ (by omega) hbase ?_
  · intro j u hj
    match j, hj with
    | 0, hj => simp at hj; subst hj; simpa [Addr.add] using hc
    | j + 1, hj => simp at hj
  · intro u hu; simp at hu; subst hu; rfl
  · unfold maxLen; omega
  · intro v' w' h2 h3 _
    exact hKK _ _ (hK v' w' (OwnsB.snoc h2) ((Below.refl base w).grown h3 hbase (fun k e => OwnsB.base_le hown k e)))

theorem u8_or2 (x y : UInt8) : bits .or .u8 (x.toNat : Int) (y.toNat : Int) = ((x ||| y).toNat : Int) := by
  rw [u8_or_nat _ _ x.toNat_lt y.toNat_lt, ← UInt8.toNat_or]
theorem u8_and2 (x y : UInt8) : bits .and .u8 (x.toNat : Int) (y.toNat : Int) = ((x &&& y).toNat : Int) := by
  rw [u8_and_nat _ _ x.toNat_lt y.toNat_lt, ← UInt8.toNat_and]
theorem u8_andNot2 (x y : UInt8) : bits .andNot .u8 (x.toNat : Int) (y.toNat : Int) = ((x &&& ~~~y).toNat : Int) := by
  rw [u8_andNot_nat _ _ x.toNat_lt y.toNat_lt, UInt8.toNat_and, UInt8.toNat_not]; rfl

set_option maxHeartbeats 2000000 in
theorem rTorn_any (o wt m : ByteArray) (ho : o.size ≤ 100) (w : World) :
    Calls Try.prog 21 #[.string o, .string wt, .string m] w fun e w' => (∃ X : ByteArray, X.size = o.size ∧ e = .returned (.string X)) ∧ Below w.heap.size w w' := by
  go_enter Try.func21, Try.ntmps21
  go_wp2
  go_loopw [7, 8] (fun v i wr => ∃ (k : Nat) (l : List UInt8), k ≤ o.size ∧ i = .int .i64 k ∧ l.length = k ∧ OwnsB wr w.heap.size v l ∧ Below w.heap.size w wr) (fun _ i _ => o.size - (intOf i).toNat)
  case atStart => exact ⟨0, [], by omega, rfl, rfl, by exact World.ownsRow_lit w #[] 0 (Nat.le_refl _) (by decide) rfl, (Below.refl _ w).alloc (Nat.le_refl _) _⟩
  case round =>
    obtain ⟨k, l, hk, rfl, hll, hown, hbr⟩ := hrel
    by_cases hlt : k < o.size
    · have hk1 : k < 1000 := by omega
      have z1 := u8_and2 o[k] (atB wt k 255)
      have z2 := u8_and2 (o[k] &&& atB wt k 255) (atB m k 0)
      have z3 := u8_andNot2 o[k] (atB m k 0)
      have z4 := u8_or2 (o[k] &&& atB wt k 255 &&& atB m k 0) (o[k] &&& ~~~(atB m k 0))
      obtain ⟨y1, hy1⟩ : ∃ y, y = o[k] &&& atB wt k 255 := ⟨_, rfl⟩
      rw [← hy1] at z1 z2 z4
      obtain ⟨y2, hy2⟩ : ∃ y, y = y1 &&& atB m k 0 := ⟨_, rfl⟩
      rw [← hy2] at z2 z4
      obtain ⟨y3, hy3⟩ : ∃ y, y = o[k] &&& ~~~(atB m k 0) := ⟨_, rfl⟩
      rw [← hy3] at z3 z4
      obtain ⟨y4, hy4⟩ : ∃ y, y = y2 ||| y3 := ⟨_, rfl⟩
      rw [← hy4] at z4
      clear hy1 hy2 hy3 hy4
      go_wp2_with fail
      (refine wp_region_calm (wr.heap.size) (by kernel_rfl) (by kernel_rfl) ?_; (repeat (go_big_quiet_step (((with_reducible refine calm_same (at_any wt k 255 255 rfl hk1 _)))))); refine wpQuiet_nil ?_; intro _ hw'; obtain ⟨⟨W2, hW2⟩, hw''⟩ := hw'; subst hw'')
      go_wp2_with (first | (with_reducible refine (at_any m k 0 0 rfl hk1 _).mono ?_; rintro e w3 ⟨rfl, rfl⟩) | (at_builtin; refine list_append_byte (b := y4) _ rfl _ _ rfl rfl rfl ((hown.below hW2).below ((Below.refl _ _).alloc (Nat.le_refl _) _)) (by simp) (by omega) (by simp; have := hbr.size; have := hW2.size; omega) ?_))
      intro v4 w4 ho4 hb4
      have B2 := hbr.trans (hW2.mono hbr.size)
      have B4 := (B2.alloc B2.size (.cells #[.int .u8 (y4.toNat : Int)] 5)).trans hb4
      have hl4 : (l ++ [y4]).length = k + 1 := by simp [hll]
      clear hb4 B2 hown hbr
      go_wp2
      go_roundw
      case rel => exact ⟨k + 1, l ++ [y4], by omega, by go_num, hl4, ho4, B4⟩
      case measure => simp [intOf]; omega
    · have hk2 : k = o.size := by omega
      have hcv := conv_own hown
      go_wp2
      go_ret
      exact ⟨⟨_, by show l.toArray.size = _; rw [List.size_toArray]; omega, rfl⟩, hbr⟩
end Go.Proofs.Ytclhdgolcaacbaa
