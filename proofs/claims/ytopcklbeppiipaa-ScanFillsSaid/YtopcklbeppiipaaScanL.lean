/- The walk of the law ScanLast. -/
import Derived.Test.YtopcklbeppiipaaScanSh
namespace Go.Proofs.Ytopcklbeppiipaa
open Go.RowKit
set_option linter.unusedVariables false
set_option linter.unusedSimpArgs false

/-! plain laws of the last one -/
theorem lastK_none {s : ByteArray} {n : Nat} (h : lastK s n = none) : ∀ j : Nat, j < n → stateS s ((j : Int) + 1) ≠ 2 := by
  induction n with
  | zero => intro j hj; omega
  | succ n ih =>
    intro j hj h2
    by_cases h2' : stateS s ((n : Int) + 1) = 2
    · cases ho : lastK s n with
      | none => rw [lastK_first h2' ho] at h; cases h
      | some m =>
        by_cases hn : decN (slotS s ((n : Int) + 1)) < decN (slotS s (m : Int))
        · rw [lastK_elder h2' ho hn] at h; cases h
        · rw [lastK_newer h2' ho hn] at h; cases h
    · rw [lastK_skip h2'] at h
      by_cases hjn : j = n
      · subst hjn; exact h2' h2
      · exact ih h j (by omega) h2
theorem lastK_some {s : ByteArray} {n m : Nat} (h : lastK s n = some m) :
    1 ≤ m ∧ m ≤ n ∧ stateS s (m : Int) = 2 ∧ ∀ j : Nat, j < n → stateS s ((j : Int) + 1) = 2 → decN (slotS s ((j : Int) + 1)) ≤ decN (slotS s (m : Int)) := by
  induction n generalizing m with
  | zero => cases h
  | succ n ih =>
    by_cases h2' : stateS s ((n : Int) + 1) = 2
    · cases ho : lastK s n with
      | none =>
        rw [lastK_first h2' ho] at h
        cases h
        refine ⟨by omega, by omega, by rw [show ((n + 1 : Nat) : Int) = (n : Int) + 1 by omega]; exact h2', fun j hj h2 => ?_⟩
        by_cases hjn : j = n
        · subst hjn; rw [show ((j + 1 : Nat) : Int) = (j : Int) + 1 by omega]; exact Nat.le_refl _
        · exact absurd h2 (lastK_none ho j (by omega))
      | some q =>
        obtain ⟨i1, i2, i3, i4⟩ := ih ho
        by_cases hn : decN (slotS s ((n : Int) + 1)) < decN (slotS s (q : Int))
        · rw [lastK_elder h2' ho hn] at h
          cases h
          refine ⟨i1, by omega, i3, fun j hj h2 => ?_⟩
          by_cases hjn : j = n
          · subst hjn; omega
          · exact i4 j (by omega) h2
        · rw [lastK_newer h2' ho hn] at h
          cases h
          refine ⟨by omega, by omega, by rw [show ((n + 1 : Nat) : Int) = (n : Int) + 1 by omega]; exact h2', fun j hj h2 => ?_⟩
          rw [show ((n + 1 : Nat) : Int) = (n : Int) + 1 by omega]
          by_cases hjn : j = n
          · subst hjn; exact Nat.le_refl _
          · have := i4 j (by omega) h2; omega
    · rw [lastK_skip h2'] at h
      obtain ⟨i1, i2, i3, i4⟩ := ih h
      refine ⟨i1, by omega, i3, fun j hj h2 => ?_⟩
      by_cases hjn : j = n
      · subst hjn; exact absurd h2 h2'
      · exact i4 j (by omega) h2
theorem goodN_pos {s : ByteArray} {n m : Nat} (h1 : 1 ≤ m) (h2 : m ≤ n) (h : stateS s (m : Int) = 2) : 0 < goodN s n := by
  induction n with
  | zero => omega
  | succ n ih =>
    unfold goodN
    by_cases hm : m = n + 1
    · subst hm
      rw [show ((n + 1 : Nat) : Int) = (n : Int) + 1 by omega] at h
      rw [if_pos h]; omega
    · have := ih (by omega); omega
theorem goodN_none {s : ByteArray} {n : Nat} (h : ∀ j : Nat, j < n → stateS s ((j : Int) + 1) ≠ 2) : goodN s n = 0 := by
  induction n with
  | zero => rfl
  | succ n ih => unfold goodN; rw [ih (fun j hj => h j (by omega)), if_neg (h n (by omega))]

/-- found among the first k: one of the good ones is the record -/
def foundK (s : ByteArray) (K N D : Nat) : Nat → Bool
  | 0 => false
  | k + 1 => foundK s K N D k || (decide (stateS s ((k : Int) + 1) = 2) && decide (K = decK (slotS s ((k : Int) + 1)) ∧ N = decN (slotS s ((k : Int) + 1)) ∧ D = decD (slotS s ((k : Int) + 1))))
theorem foundK_skip {s : ByteArray} {K N D k : Nat} (h : stateS s ((k : Int) + 1) ≠ 2) : foundK s K N D (k + 1) = foundK s K N D k := by
  rw [foundK]; simp [h]
theorem foundK_take {s : ByteArray} {K N D k : Nat} (h : stateS s ((k : Int) + 1) = 2) : foundK s K N D (k + 1) = (foundK s K N D k || decide (K = decK (slotS s ((k : Int) + 1)) ∧ N = decN (slotS s ((k : Int) + 1)) ∧ D = decD (slotS s ((k : Int) + 1)))) := by
  rw [foundK]; simp [h]
theorem foundK_yes {s : ByteArray} {n m : Nat} (h1 : 1 ≤ m) (h2 : m ≤ n) (h : stateS s (m : Int) = 2) : foundK s (decK (slotS s (m : Int))) (decN (slotS s (m : Int))) (decD (slotS s (m : Int))) n = true := by
  induction n with
  | zero => omega
  | succ n ih =>
    by_cases hm : m = n + 1
    · subst hm
      rw [show ((n + 1 : Nat) : Int) = (n : Int) + 1 by omega] at h ⊢
      rw [foundK_take h]; simp
    · unfold foundK; rw [ih (by omega)]; simp
theorem foundK_no {s : ByteArray} {K N D n : Nat} (h : ∀ j : Nat, j < n → stateS s ((j : Int) + 1) ≠ 2) : foundK s K N D n = false := by
  induction n with
  | zero => rfl
  | succ n ih => rw [foundK_skip (h n (by omega)), ih (fun j hj => h j (by omega))]

/-- all that the law asks, in plain words -/
theorem last_facts (s : ByteArray) (n : Nat) : (∀ j : Nat, j < n → stateS s ((j : Int) + 1) = 2 → oE (lastK s n) = 0 ∧ decN (slotS s ((j : Int) + 1)) ≤ oN s (lastK s n)) ∧
    (decide (oE (lastK s n) = 0) = decide (0 < goodN s n)) ∧ foundK s (oK s (lastK s n)) (oN s (lastK s n)) (oD s (lastK s n)) n = decide (0 < goodN s n) := by
  cases ho : lastK s n with
  | none =>
    have h := lastK_none ho
    have hg := goodN_none h
    refine ⟨fun j hj h2 => absurd h2 (h j hj), by rw [hg]; decide, by rw [hg, foundK_no h]; rfl⟩
  | some m =>
    obtain ⟨i1, i2, i3, i4⟩ := lastK_some ho
    have hg := goodN_pos i1 i2 i3
    refine ⟨fun j hj h2 => ⟨rfl, i4 j hj h2⟩, ?_, ?_⟩
    · rw [show oE (some m) = 0 from rfl]; simp [hg]
    · rw [show oK s (some m) = decK (slotS s (m : Int)) from rfl, show oN s (some m) = decN (slotS s (m : Int)) from rfl, show oD s (some m) = decD (slotS s (m : Int)) from rfl, foundK_yes i1 i2 i3]; simp [hg]

theorem last_out (s : ByteArray) (h : 400 < s.size) (hs : s.size ≤ maxLen) (w : World) :
    Calls Try.prog 3 #[.string s] w fun e w' => e = .returned (.bool true) ∧ Below w.heap.size w w' := by
  unfold maxLen at hs
  go_enter Try.func3, Try.ntmps3
  go_wp2_with (with_reducible refine (shown9_any _).mono ?_; rintro e w1 ⟨rfl, b1⟩)
  go_ret
  exact ⟨rfl, b1⟩

set_option maxHeartbeats 4000000 in
theorem last_law (s : ByteArray) (n : Nat) (h : s.size ≤ 400) (hn : n = placeN s - 1) (hn12 : n ≤ 12) (w : World) :
    Calls Try.prog 3 #[.string s] w fun e w' => e = .returned (.bool true) ∧ Below w.heap.size w w' := by
  have hm : s.size ≤ maxLen := by unfold maxLen; omega
  have hR : ∀ w : World, Calls Try.prog 10 #[.int .i64 (s.size : Int)] w fun e w' => e = .returned (.int .i64 (n : Int)) ∧ w = w' := fun w => by
    have := rslots_any (s.size : Int) w
    rw [placeN_slots, show (placeN s : Int) - (if 0 < placeN s then 1 else 0) = (n : Int) by split <;> omega] at this
    exact this
  have hL := Last_any s hm
  have hG := Good_any s hm
  have hSt := fun (j : Nat) (hj : j < n) => rState_in s (j + 1) (by omega) (by omega)
  have hRe := fun (j : Nat) (hj : j < n) => rRecord_in s (j + 1) (by omega)
  unfold decV recV at hRe
  have f := last_facts s n
  obtain ⟨f1, f2, f3⟩ := f
  have hls : lastS s = lastK s n := by unfold lastS; rw [hn]
  have hgs : goodS s = goodN s n := by unfold goodS; rw [hn]
  unfold lastV at hL
  rw [hls] at hL
  rw [hgs] at hG
  have hEE : oE (lastK s n) = 0 ∨ oE (lastK s n) = 10 := by cases lastK s n <;> simp [oE]
  generalize oK s (lastK s n) = LK at *
  generalize oN s (lastK s n) = LN at *
  generalize oD s (lastK s n) = LD at *
  generalize oE (lastK s n) = LE at *
  have F1 := Lib.hid f1
  have F2 := Lib.hid f2
  have F3 := Lib.hid f3
  have HST := Lib.hid hSt
  have HRE := Lib.hid hRe
  have HGL := Lib.hid (goodN_le s)
  clear f1 f2 f3 hls hgs hm hn hSt hRe
  go_enter Try.func3, Try.ntmps3
  go_wp2_with (with_reducible refine (shown9_any _).mono ?_; rintro e w1 ⟨rfl, b1⟩)
  refine (hL _).mono ?_
  rintro e w2 ⟨rfl, b2⟩
  have B2 := bthen b1 b2
  have b3 : Below w2.heap.size w2 (w2.alloc (.cells #[.int .i64 (LK : Int), .int .u64 (LN : Int), .int .u64 (LD : Int)] 25)) := (Below.refl _ w2).alloc (Nat.le_refl _) _
  have q3 := Blk.new w2 25 #[.int .i64 (LK : Int), .int .u64 (LN : Int), .int .u64 (LD : Int)]
  generalize hW3 : w2.alloc (.cells #[.int .i64 (LK : Int), .int .u64 (LN : Int), .int .u64 (LD : Int)] 25) = W3 at *
  have B3 := bthen B2 b3
  have HB3 := Lib.hid B3
  have HQ3 := Lib.hid q3
  generalize hRB : w2.heap.size = RB at *
  clear b1 b2 b3 B2 B3 q3
  go_wp2_with fail
  clear hW3 hRB
  go_loopw [5, 6, 7] (fun f k i wr => ∃ j : Nat, j ≤ n ∧ i = .int .i64 ((j : Int) + 1) ∧ k = .int .i64 (goodN s j : Nat) ∧ f = .bool (foundK s LK LN LD j) ∧ Blk wr RB 25 #[.int .i64 (LK : Int), .int .u64 (LN : Int), .int .u64 (LD : Int)] ∧ Below w.heap.size w wr) (fun _ _ i _ => n + 1 - (intOf i).toNat)
  case atStart => exact ⟨0, by omega, rfl, rfl, rfl, HQ3.out, HB3.out⟩
  case round =>
    obtain ⟨j, hj, rfl, rfl, rfl, kr, Br⟩ := hrel
    have KR := Lib.hid kr
    have BR := Lib.hid Br
    have hgl := HGL.out j
    clear kr Br
    by_cases hlt : j < n
    · have hS := HST.out j hlt
      have hRec := HRE.out j hlt
      have hF1 := Lib.hid (F1.out j hlt)
      have T1 := Lib.hid (show goodN s (j + 1) = goodN s j + (if stateS s ((j : Int) + 1) = 2 then 1 else 0) from rfl)
      have T2 := Lib.hid (fun h => foundK_take (s := s) (K := LK) (N := LN) (D := LD) (k := j) h)
      have T3 := Lib.hid (fun h => foundK_skip (s := s) (K := LK) (N := LN) (D := LD) (k := j) h)
      rw [show ((j + 1 : Nat) : Int) = (j : Int) + 1 by omega] at hS hRec
      generalize decE (slotS s ((j : Int) + 1)) = E at *
      generalize decK (slotS s ((j : Int) + 1)) = K at *
      generalize decN (slotS s ((j : Int) + 1)) = N at *
      generalize decD (slotS s ((j : Int) + 1)) = D at *
      generalize stateS s ((j : Int) + 1) = S at *
      by_cases h2 : S = 2
      · subst h2
        obtain ⟨e0, hle⟩ := hF1.out rfl
        subst e0
        have hnl : decide (LN < N) = false := by simp; omega
        have hnl2 : decide ((LN : Int) < (N : Int)) = false := by simp; omega
        have t1 := T1.out
        rw [if_pos rfl] at t1
        have HT1 := Lib.hid t1
        have t2 := T2.out rfl
        generalize foundK s LK LN LD j = FJ at *
        have HT2 := Lib.hid t2
        clear t1 t2 T1 T2 T3 F1
        go_wp2_with (with_reducible refine (hR _).mono ?_; rintro e1 w4 ⟨rfl, rfl⟩)
        refine (hS _).mono ?_
        rintro e1 w4 ⟨rfl, b4⟩
        go_wp2_with fail
        refine (hRec _).mono ?_
        rintro e1 w5 ⟨rfl, b5⟩
        have b6 : Below w5.heap.size w5 (w5.alloc (.cells #[.int .i64 (K : Int), .int .u64 (N : Int), .int .u64 (D : Int)] 31)) := (Below.refl _ w5).alloc (Nat.le_refl _) _
        have q6 := Blk.new w5 31 #[.int .i64 (K : Int), .int .u64 (N : Int), .int .u64 (D : Int)]
        generalize hW6 : w5.alloc (.cells #[.int .i64 (K : Int), .int .u64 (N : Int), .int .u64 (D : Int)] 31) = W6 at *
        have k4 := Blk.below KR.out b4 KR.out.lt
        have k5 := k4.below b5 k4.lt
        have k6 := k5.below b6 k5.lt
        have B6 := Lib.hid (bthen (bthen (bthen BR.out b4) b5) b6)
        have r0 := k6.cell 0
        have r1 := k6.cell 1
        have r2 := k6.cell 2
        have t0 := q6.cell 0
        have t1 := q6.cell 1
        have t2 := q6.cell 2
        simp at r0 r1 r2 t0 t1 t2
        have K6 := Lib.hid k6
        clear b4 b5 b6 q6 k4 k5 k6 KR BR
        cases FJ with
        | true =>
          go_wp2_with fail
          go_roundw
          case rel => exact ⟨j + 1, by omega, by go_num, by rw [HT1.out]; go_num, by rw [HT2.out]; rfl, K6.out, B6.out⟩
          case measure => simp [intOf]; omega
        | false =>
          by_cases hk : LK = K
          · have eK1 : ((LK : Int) = (K : Int)) = True := by simp [hk]
            have eK2 : (LK = K) = True := by simp [hk]
            by_cases hn : LN = N
            · have eN1 : ((LN : Int) = (N : Int)) = True := by simp [hn]
              have eN2 : (LN = N) = True := by simp [hn]
              by_cases hd : LD = D
              · have eD1 : ((LD : Int) = (D : Int)) = True := by simp [hd]
                have eD2 : (LD = D) = True := by simp [hd]
                have HQ := Lib.hid (show decide (LK = K ∧ LN = N ∧ LD = D) = true by simp [hk, hn, hd])
                clear hk hn hd
                go_wp2_with fail
                go_roundw
                case rel => exact ⟨j + 1, by omega, by go_num, by rw [HT1.out]; go_num, by rw [HT2.out, HQ.out]; rfl, K6.out, B6.out⟩
                case measure => simp [intOf]; omega
              · have eD1 : ((LD : Int) = (D : Int)) = False := by simp; omega
                have eD2 : (LD = D) = False := by simp [hd]
                have HQ := Lib.hid (show decide (LK = K ∧ LN = N ∧ LD = D) = false by simp [hd])
                clear hk hn hd
                go_wp2_with fail
                go_roundw
                case rel => exact ⟨j + 1, by omega, by go_num, by rw [HT1.out]; go_num, by rw [HT2.out, HQ.out]; rfl, K6.out, B6.out⟩
                case measure => simp [intOf]; omega
            · have eN1 : ((LN : Int) = (N : Int)) = False := by simp; omega
              have eN2 : (LN = N) = False := by simp [hn]
              have HQ := Lib.hid (show decide (LK = K ∧ LN = N ∧ LD = D) = false by simp [hn])
              clear hk hn
              go_wp2_with fail
              go_roundw
              case rel => exact ⟨j + 1, by omega, by go_num, by rw [HT1.out]; go_num, by rw [HT2.out, HQ.out]; rfl, K6.out, B6.out⟩
              case measure => simp [intOf]; omega
          · have eK1 : ((LK : Int) = (K : Int)) = False := by simp; omega
            have eK2 : (LK = K) = False := by simp [hk]
            have HQ := Lib.hid (show decide (LK = K ∧ LN = N ∧ LD = D) = false by simp [hk])
            clear hk
            go_wp2_with fail
            go_roundw
            case rel => exact ⟨j + 1, by omega, by go_num, by rw [HT1.out]; go_num, by rw [HT2.out, HQ.out]; rfl, K6.out, B6.out⟩
            case measure => simp [intOf]; omega
      · have n2 : (S != 2) = true := by simpa using h2
        have t1 := T1.out
        rw [if_neg h2] at t1
        have HT1 := Lib.hid t1
        have HT2 := Lib.hid (T3.out h2)
        clear t1 h2 T1 T2 T3 F1 hF1
        go_wp2_with (with_reducible refine (hR _).mono ?_; rintro e1 w4 ⟨rfl, rfl⟩)
        refine (hS _).mono ?_
        rintro e1 w4 ⟨rfl, b4⟩
        have k4 := Blk.below KR.out b4 KR.out.lt
        have B4 := bthen BR.out b4
        go_wp2_with fail
        go_roundw
        case rel => exact ⟨j + 1, by omega, by go_num, by rw [HT1.out]; rfl, by rw [HT2.out], k4, B4⟩
        case measure => simp [intOf]; omega
    · obtain rfl : j = n := by omega
      have d1 : decide ((j : Int) + 1 ≤ (j : Int)) = false := by simp; omega
      have f2 := F2.out
      have f3 := F3.out
      generalize foundK s LK LN LD j = FJ at *
      generalize goodN s j = G at *
      rcases hEE with hE | hE
      · subst hE
        have hg : 0 < G := by simpa using f2
        have hf : FJ = true := by rw [f3]; simpa using hg
        subst hf
        have g1 : decide ((0 : Int) < (G : Int)) = true := by simp; omega
        have g2 : decide (0 < G) = true := by simpa using hg
        clear f2 f3 F1 F2 F3 HST HRE
        go_wp2_with (with_reducible refine (hR _).mono ?_; rintro e1 w4 ⟨rfl, rfl⟩)
        refine (hG _).mono ?_
        rintro e1 w5 ⟨rfl, b5⟩
        go_wp2
        go_ret
        exact ⟨rfl, bthen BR.out b5⟩
      · subst hE
        have hg : G = 0 := by
          have : ¬ 0 < G := by simpa using f2
          omega
        subst hg
        have hf : FJ = false := by rw [f3]; rfl
        subst hf
        clear f2 f3 F1 F2 F3 HST HRE
        go_wp2_with (with_reducible refine (hR _).mono ?_; rintro e1 w4 ⟨rfl, rfl⟩)
        refine (hG _).mono ?_
        rintro e1 w5 ⟨rfl, b5⟩
        go_wp2
        go_ret
        exact ⟨rfl, bthen BR.out b5⟩

theorem ScanLast_walk (s : ByteArray) (hs : s.size ≤ maxLen) (w : World) :
    Calls Try.prog 3 #[.string s] w fun e w' => e = .returned (.bool true) ∧ Below w.heap.size w w' := by
  by_cases h : 400 < s.size
  · exact last_out s h hs w
  · exact last_law s _ (by omega) rfl (by unfold placeN; split <;> omega) w
end Go.Proofs.Ytopcklbeppiipaa
