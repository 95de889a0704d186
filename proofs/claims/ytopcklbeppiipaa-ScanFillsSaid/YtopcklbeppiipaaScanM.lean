/- scan.Last. -/
import Derived.Test.YtopcklbeppiipaaScan
import Derived.WalkMore
namespace Go.Proofs.Ytopcklbeppiipaa
open Go.RowKit
set_option linter.unusedVariables false
set_option linter.unusedSimpArgs false

/-- the slot of the last record among the first k -/
def lastK (s : ByteArray) : Nat → Option Nat
  | 0 => none
  | k + 1 => if stateS s ((k : Int) + 1) = 2 then
      (match lastK s k with
        | none => some (k + 1)
        | some m => if decN (slotS s ((k : Int) + 1)) < decN (slotS s (m : Int)) then some m else some (k + 1))
    else lastK s k
def oK (s : ByteArray) : Option Nat → Nat | none => 0 | some m => decK (slotS s (m : Int))
def oN (s : ByteArray) : Option Nat → Nat | none => 0 | some m => decN (slotS s (m : Int))
def oD (s : ByteArray) : Option Nat → Nat | none => 0 | some m => decD (slotS s (m : Int))
def oE : Option Nat → Int | none => 10 | some _ => 0

theorem lastK_skip {s : ByteArray} {k : Nat} (h : stateS s ((k : Int) + 1) ≠ 2) : lastK s (k + 1) = lastK s k := by
  rw [lastK, if_neg h]
theorem lastK_elder {s : ByteArray} {k m : Nat} (h : stateS s ((k : Int) + 1) = 2) (hm : lastK s k = some m) (hn : decN (slotS s ((k : Int) + 1)) < decN (slotS s (m : Int))) : lastK s (k + 1) = some m := by
  rw [lastK, if_pos h, hm]
  simp [hn]
theorem lastK_newer {s : ByteArray} {k m : Nat} (h : stateS s ((k : Int) + 1) = 2) (hm : lastK s k = some m) (hn : ¬ decN (slotS s ((k : Int) + 1)) < decN (slotS s (m : Int))) : lastK s (k + 1) = some (k + 1) := by
  rw [lastK, if_pos h, hm]
  simp [hn]
theorem lastK_first {s : ByteArray} {k : Nat} (h : stateS s ((k : Int) + 1) = 2) (hm : lastK s k = none) : lastK s (k + 1) = some (k + 1) := by
  rw [lastK, if_pos h, hm]

def lastS (s : ByteArray) : Option Nat := lastK s (placeN s - 1)
def lastV (s : ByteArray) : Value := .tuple #[.agg #[.int .i64 (oK s (lastS s) : Nat), .int .u64 (oN s (lastS s) : Nat), .int .u64 (oD s (lastS s) : Nat)], .int .i64 (oE (lastS s))]

/-- the box of the best one -/
def Best (s : ByteArray) (o : Option Nat) (B : Nat) (W : World) : Prop := Blk W B 25 #[.int .i64 (oK s o : Nat), .int .u64 (oN s o : Nat), .int .u64 (oD s o : Nat)]

set_option maxHeartbeats 4000000 in
theorem Last_any (s : ByteArray) (hs : s.size ≤ maxLen) (w : World) :
    Calls Try.prog 9 #[.string s] w fun e w' => e = .returned (lastV s) ∧ Below w.heap.size w w' := by
  have h3 := States_any s hs
  unfold StatesPost at h3
  have hN : placeN s ≤ 13 := by unfold placeN; split <;> omega
  unfold lastV lastS
  have hRec := fun k : Nat => Record_any s ((k : Int) + 1) hs
  unfold decV recV at hRec
  obtain ⟨n, hn⟩ : ∃ n, n = placeN s - 1 := ⟨_, rfl⟩
  have HN := Lib.hid hn
  have hn12 : n ≤ 12 := by omega
  rw [← hn]
  clear hn hN
  have k0 := Blk.new w 25 #[.int .i64 0, .int .u64 0, .int .u64 0]
  have B0 : Below w.heap.size w (w.alloc (.cells #[.int .i64 0, .int .u64 0, .int .u64 0] 25)) := (Below.refl _ w).alloc (Nat.le_refl _) _
  have hz : w.heap.size < (w.alloc (.cells #[.int .i64 0, .int .u64 0, .int .u64 0] 25)).heap.size := by simp
  go_enter Try.func9, Try.ntmps9
  go_wp2_with fail
  generalize w.alloc (.cells #[.int .i64 0, .int .u64 0, .int .u64 0] 25) = W0 at *
  go_step3
  go_wp2_with fail
  go_step3
  go_wp2_with fail
  refine (h3 _).mono ?_
  rintro e w3 ⟨v, rfl, own3, b3⟩
  have hcell := states_cells (W := w3) w.heap.size hz own3
  obtain ⟨p, c, rfl, hF⟩ := hcell
  have k3 : Best s none w.heap.size w3 := k0.below b3 k0.lt
  have B3 := bthen B0 b3
  clear own3 k0 B0 b3 hz
  simp only [← HN.out]
  go_wp2_with fail
  go_loopw [3, 11] (fun e i wr => ∃ k : Nat, k ≤ n ∧ i = .int .i64 k ∧ e = .int .i64 (oE (lastK s k)) ∧ Best s (lastK s k) w.heap.size wr ∧ StC s p w.heap.size wr ∧ Below w.heap.size w wr) (fun _ i _ => n - (intOf i).toNat)
  case atStart => exact ⟨0, by omega, rfl, rfl, k3, hF, B3⟩
  case round =>
    obtain ⟨k, hk, rfl, rfl, kr, hC, Br⟩ := hrel
    have KR := Lib.hid kr
    have HC := Lib.hid hC
    have BR := Lib.hid Br
    clear k3 hF B3
    by_cases hlt : k < n
    · obtain ⟨g, hp, hBg, hgl, hc⟩ := hC k (by have := HN.out; omega)
      have hR := hRec k
      subst hp
      clear kr hC Br
      by_cases h2 : stateS s ((k : Int) + 1) = 2
      · rw [h2] at hc
        have EK := Lib.hid (show oK s (some (k + 1)) = decK (slotS s ((k : Int) + 1)) by show decK (slotS s ((k + 1 : Nat) : Int)) = _; rw [show ((k + 1 : Nat) : Int) = (k : Int) + 1 by omega])
        have EN := Lib.hid (show oN s (some (k + 1)) = decN (slotS s ((k : Int) + 1)) by show decN (slotS s ((k + 1 : Nat) : Int)) = _; rw [show ((k + 1 : Nat) : Int) = (k : Int) + 1 by omega])
        have ED := Lib.hid (show oD s (some (k + 1)) = decD (slotS s ((k : Int) + 1)) by show decD (slotS s ((k + 1 : Nat) : Int)) = _; rw [show ((k + 1 : Nat) : Int) = (k : Int) + 1 by omega])
        have L1 := fun (h : lastK s k = none) => lastK_first h2 h
        have L2 := fun (m : Nat) (h : lastK s k = some m) hn => lastK_elder h2 h hn
        have L3 := fun (m : Nat) (h : lastK s k = some m) hn => lastK_newer h2 h hn
        generalize decK (slotS s ((k : Int) + 1)) = K at *
        generalize decN (slotS s ((k : Int) + 1)) = N at *
        generalize decD (slotS s ((k : Int) + 1)) = D at *
        generalize decE (slotS s ((k : Int) + 1)) = E at *
        have HL1 := Lib.hid L1
        have HL2 := Lib.hid L2
        have HL3 := Lib.hid L3
        clear L1 L2 L3
        cases ho : lastK s k with
        | none =>
          rw [ho] at KR
          have hE : oE none = 10 := rfl
          have HO := Lib.hid (HL1.out ho)
          clear ho
          clear h2
          go_wp2_with (with_reducible refine (hR _).mono ?_)
          rintro e1 w4 ⟨rfl, b4⟩
          have b5 : Below w4.heap.size w4 (w4.alloc (.cells #[.int .i64 (K : Int), .int .u64 (N : Int), .int .u64 (D : Int)] 25)) := (Below.refl _ w4).alloc (Nat.le_refl _) _
          have q5 := Blk.new w4 25 #[.int .i64 (K : Int), .int .u64 (N : Int), .int .u64 (D : Int)]
          generalize hW5 : w4.alloc (.cells #[.int .i64 (K : Int), .int .u64 (N : Int), .int .u64 (D : Int)] 25) = W5 at *
          have k4 := Blk.below KR.out b4 KR.out.lt
          have k5 := k4.below b5 k4.lt
          have KC := Lib.hid (StC.below (StC.below HC.out b4) b5)
          have B5 := Lib.hid (bthen (bthen BR.out b4) b5)
          have r0 := k5.cell 0
          have r1 := k5.cell 1
          have r2 := k5.cell 2
          have f0 := k5.frozen 0
          have f1 := k5.frozen 1
          have f2 := k5.frozen 2
          have t0 := q5.cell 0
          have t1 := q5.cell 1
          have t2 := q5.cell 2
          simp at r0 r1 r2 t0 t1 t2
          have K5 := Lib.hid k5
          clear b4 b5 q5 k4 k5 HC BR hR
          go_wp2_with fail
          have g := dec_sets K5.out (.int .i64 (K : Int)) (.int .u64 (N : Int)) (.int .u64 (D : Int))
          have B6 := dec_bel B5.out (.int .i64 (K : Int)) (.int .u64 (N : Int)) (.int .u64 (D : Int))
          have C6 := ((KC.out.set 0 (.int .i64 (K : Int))).set 1 (.int .u64 (N : Int))).set 2 (.int .u64 (D : Int))
          generalize World.setCell (World.setCell (World.setCell W5 _ _) _ _) _ _ = W6 at *
          go_roundw
          case rel => exact ⟨k + 1, by omega, by go_num, by rw [HO.out]; rfl, by rw [HO.out]; unfold Best; rw [EK.out, EN.out, ED.out]; exact g, C6, B6⟩
          case measure => simp [intOf]; omega
        | some m =>
          rw [ho] at KR
          have hE : oE (some m) = 0 := rfl
          have hM : oN s (some m) = decN (slotS s (m : Int)) := rfl
          have HL2m := Lib.hid (HL2.out m ho)
          have HL3m := Lib.hid (HL3.out m ho)
          clear ho
          rw [← hM] at HL2m HL3m
          have KR2 := Lib.hid KR.out
          by_cases hlt2 : N < oN s (some m)
          · have d2 : decide ((N : Int) < (oN s (some m) : Int)) = true := by simp; omega
            have HO := Lib.hid (HL2m.out hlt2)
            clear hM
            clear h2
            go_wp2_with (with_reducible refine (hR _).mono ?_)
            rintro e1 w4 ⟨rfl, b4⟩
            have b5 : Below w4.heap.size w4 (w4.alloc (.cells #[.int .i64 (K : Int), .int .u64 (N : Int), .int .u64 (D : Int)] 25)) := (Below.refl _ w4).alloc (Nat.le_refl _) _
            have q5 := Blk.new w4 25 #[.int .i64 (K : Int), .int .u64 (N : Int), .int .u64 (D : Int)]
            generalize hW5 : w4.alloc (.cells #[.int .i64 (K : Int), .int .u64 (N : Int), .int .u64 (D : Int)] 25) = W5 at *
            have k4 := Blk.below KR.out b4 KR.out.lt
            have k5 := k4.below b5 k4.lt
            have KC := Lib.hid (StC.below (StC.below HC.out b4) b5)
            have B5 := Lib.hid (bthen (bthen BR.out b4) b5)
            have r0 := k5.cell 0
            have r1 := k5.cell 1
            have r2 := k5.cell 2
            have f0 := k5.frozen 0
            have f1 := k5.frozen 1
            have f2 := k5.frozen 2
            have t0 := q5.cell 0
            have t1 := q5.cell 1
            have t2 := q5.cell 2
            simp at r0 r1 r2 t0 t1 t2
            have K5 := Lib.hid k5
            clear b4 b5 q5 k4 k5 HC BR hR
            go_wp2_with fail
            go_roundw
            case rel => exact ⟨k + 1, by omega, by go_num, by rw [HO.out]; rfl, by rw [HO.out]; exact K5.out, KC.out, B5.out⟩
            case measure => simp [intOf]; omega
          · have d2 : decide ((N : Int) < (oN s (some m) : Int)) = false := by simp; omega
            have HO := Lib.hid (HL3m.out hlt2)
            clear hM
            clear h2
            go_wp2_with (with_reducible refine (hR _).mono ?_)
            rintro e1 w4 ⟨rfl, b4⟩
            have b5 : Below w4.heap.size w4 (w4.alloc (.cells #[.int .i64 (K : Int), .int .u64 (N : Int), .int .u64 (D : Int)] 25)) := (Below.refl _ w4).alloc (Nat.le_refl _) _
            have q5 := Blk.new w4 25 #[.int .i64 (K : Int), .int .u64 (N : Int), .int .u64 (D : Int)]
            generalize hW5 : w4.alloc (.cells #[.int .i64 (K : Int), .int .u64 (N : Int), .int .u64 (D : Int)] 25) = W5 at *
            have k4 := Blk.below KR.out b4 KR.out.lt
            have k5 := k4.below b5 k4.lt
            have KC := Lib.hid (StC.below (StC.below HC.out b4) b5)
            have B5 := Lib.hid (bthen (bthen BR.out b4) b5)
            have r0 := k5.cell 0
            have r1 := k5.cell 1
            have r2 := k5.cell 2
            have f0 := k5.frozen 0
            have f1 := k5.frozen 1
            have f2 := k5.frozen 2
            have t0 := q5.cell 0
            have t1 := q5.cell 1
            have t2 := q5.cell 2
            simp at r0 r1 r2 t0 t1 t2
            have K5 := Lib.hid k5
            clear b4 b5 q5 k4 k5 HC BR hR
            go_wp2_with fail
            have g := dec_sets K5.out (.int .i64 (K : Int)) (.int .u64 (N : Int)) (.int .u64 (D : Int))
            have B6 := dec_bel B5.out (.int .i64 (K : Int)) (.int .u64 (N : Int)) (.int .u64 (D : Int))
            have C6 := ((KC.out.set 0 (.int .i64 (K : Int))).set 1 (.int .u64 (N : Int))).set 2 (.int .u64 (D : Int))
            generalize World.setCell (World.setCell (World.setCell W5 _ _) _ _) _ _ = W6 at *
            go_roundw
            case rel => exact ⟨k + 1, by omega, by go_num, by rw [HO.out]; rfl, by rw [HO.out]; unfold Best; rw [EK.out, EN.out, ED.out]; exact g, C6, B6⟩
            case measure => simp [intOf]; omega
      · have n2 : (stateS s ((k : Int) + 1) != 2) = true := by simpa using h2
        have HO := Lib.hid (lastK_skip h2)
        clear h2
        go_wp2_with fail
        go_roundw
        case rel => exact ⟨k + 1, by omega, by go_num, by rw [HO.out], by rw [HO.out]; exact KR.out, HC.out, BR.out⟩
        case measure => simp [intOf]; omega
    · obtain rfl : k = n := by omega
      clear kr hC Br
      have d1 : decide ((k : Int) < (k : Int)) = false := by simp
      have r0 := KR.out.cell 0
      have r1 := KR.out.cell 1
      have r2 := KR.out.cell 2
      have f0 := KR.out.frozen 0
      have f1 := KR.out.frozen 1
      have f2 := KR.out.frozen 2
      simp at r0 r1 r2
      go_wp2_with fail
      rw [Exit.noGoto_ret]
      have g := dec_sets KR.out (.int .i64 (oK s (lastK s k) : Nat)) (.int .u64 (oN s (lastK s k) : Nat)) (.int .u64 (oD s (lastK s k) : Nat))
      have B4 := dec_bel BR.out (.int .i64 (oK s (lastK s k) : Nat)) (.int .u64 (oN s (lastK s k) : Nat)) (.int .u64 (oD s (lastK s k) : Nat))
      generalize World.setCell (World.setCell (World.setCell wr _ _) _ _) _ _ = W3 at *
      have s0 := g.cell 0
      have s1 := g.cell 1
      have s2 := g.cell 2
      simp at s0 s1 s2
      exact bodyPost_ret (v := .tuple #[.agg #[.int .i64 (oK s (lastK s k) : Nat), .int .u64 (oN s (lastK s k) : Nat), .int .u64 (oD s (lastK s k) : Nat)], .int .i64 (oE (lastK s k))]) (by simp [results, Try.results9, go_sem, s0, s1, s2]) rfl ⟨rfl, B4⟩
end Go.Proofs.Ytopcklbeppiipaa
