/- Contracts and plain laws, put together: Pick. -/
import Derived.Test.YtebkeocpojlepaaGreatDoorG18
import Derived.Test.YtebkeocpojlepaaGreatDoorG10
import Derived.Test.YtebkeocpojlepaaGreatDoorG04
/- pick.of, best, Read, Other, Even. -/
namespace Go.Proofs.YtebkeocpojlepaaGreatDoor
open Go.RowKit
set_option linter.unusedVariables false
set_option linter.unusedSimpArgs false

/-- what a flash says -/
structure Ps where
  bank : Int
  gen : Nat
  seq : Nat
  dat : Nat
deriving DecidableEq
abbrev psC (p : Ps) : Array Value := #[.int .i64 p.bank, .int .u64 (p.gen : Int), .int .u64 (p.seq : Int), .int .u64 (p.dat : Int)]
abbrev psV (p : Ps) : Value := .agg (psC p)
def pNone : Ps := ⟨-1, 0, 0, 0⟩
abbrev psZ : Array Value := #[.int .i64 0, .int .u64 0, .int .u64 0, .int .u64 0]
abbrev psN : Array Value := #[.int .i64 (-1), .int .u64 0, .int .u64 0, .int .u64 0]
/-- the package variable pick.none holds what its text lays -/
def NoneG (W : World) : Prop := ∃ (tt : TypeId) (fr : Nat × Nat), W.heap[0]? = some (.cells psN tt fr)
theorem NoneG.below {W W' : World} (h : NoneG W) (hb : Below W.heap.size W W') : NoneG W' := by
  obtain ⟨tt, fr, h⟩ := h
  exact ⟨tt, fr, (hb.block 0 (Array.getElem?_eq_some_iff.1 h).1).trans h⟩
theorem NoneG.pos {W : World} (h : NoneG W) : 0 < W.heap.size := by obtain ⟨_, fr, h⟩ := h; exact (Array.getElem?_eq_some_iff.1 h).1

def ofP (s : ByteArray) (i : Int) : Ps := if genE s = 0 ∧ oE (lastS s) = 0 then ⟨i, genN s, oN s (lastS s), oD s (lastS s)⟩ else pNone

theorem infoPs (p : Ps) : (Tryz.prog.info? 74).map (·.size) = some (psC p).size := by kernel_rfl
theorem infoPsN : (Tryz.prog.info? 74).map (·.size) = some psN.size := by kernel_rfl
theorem onePs (p : Ps) : (psC p).all (·.oneCell') = true := by kernel_rfl
theorem onePsN : psN.all (·.oneCell') = true := by kernel_rfl

set_option maxHeartbeats 4000000 in
theorem of_pick (s : ByteArray) (hs : s.size ≤ maxLen) (i : Int) (w : World) (hN : NoneG w) :
    Calls Tryz.prog 69 #[.string s, .int .i64 i] w fun e w' => e = .returned (psV (ofP s i)) ∧ Below w.heap.size w w' := by
  have h1 := Generation_any s hs
  have h2 := Last_any s hs
  unfold lastV at h2
  obtain ⟨R, hR⟩ : ∃ R, R = ofP s i := ⟨_, rfl⟩
  rw [← hR]
  unfold ofP at hR
  have k0 := Blk.new w 74 psZ
  have B0 : Below w.heap.size w (w.alloc (.cells psZ 74)) := (Below.refl _ w).alloc (Nat.le_refl _) _
  generalize genE s = GE at *
  generalize genN s = GN at *
  generalize oE (lastS s) = E at *
  generalize oK s (lastS s) = K at *
  generalize oN s (lastS s) = NN at *
  generalize oD s (lastS s) = D at *
  by_cases d1 : GE = 0
  · by_cases d2 : E = 0
    · rw [if_pos ⟨d1, d2⟩] at hR
      subst d1 d2
      go_enter Tryz.func69, Tryz.ntmps69
      go_wp2_with (with_reducible refine (h1 _).mono ?_; rintro e w1 ⟨rfl, q1⟩)
      with_reducible refine (h2 _).mono ?_
      rintro e w2 ⟨rfl, q2⟩
      (have B2 := bthen (bthen B0 q1) q2; have k2 := (k0.below q1 k0.lt).below q2 (Nat.lt_of_lt_of_le k0.lt q1.size); have N2 := hN.below B2; obtain ⟨tt, fr, n2⟩ := N2; have n3 := (heap_alloc_old w2 (.cells #[.int .i64 (K : Int), .int .u64 (NN : Int), .int .u64 (D : Int)] 166) 0 (Array.getElem?_eq_some_iff.1 n2).1).trans n2; have k3 := k2.alloc (.cells #[.int .i64 (K : Int), .int .u64 (NN : Int), .int .u64 (D : Int)] 166); have B3 := B2.alloc (Nat.le_of_lt k2.lt) (.cells #[.int .i64 (K : Int), .int .u64 (NN : Int), .int .u64 (D : Int)] 166); clear B2 k2 n2 q1 q2 k0 B0)
      go_wp2_with (first | (refine wpList_load_row rfl 74 (.global 0) rfl 0 rfl tt psN fr _ n3 Tryz.underlying74 rfl infoPsN ?_) | (refine wpList_store_row rfl 74 (.tmp 4) (.tmp 25) rfl w.heap.size psN rfl rfl 74 _ k3 infoPsN rfl onePsN ?_) | (refine wpList_store_row rfl 74 (.tmp 4) (.tmp 32) rfl w.heap.size (psC ⟨i, GN, NN, D⟩) rfl rfl 74 _ k3 (infoPs _) rfl (onePs _) ?_))
      exact bodyPost_ret (v := psV (⟨i, GN, NN, D⟩ : Ps)) (results_cell_row rfl _ _ w.heap.size 74 (psC (⟨i, GN, NN, D⟩ : Ps)) (0, 0) _ rfl (k3.row _) Tryz.underlying74 rfl (infoPs _)) rfl ⟨by rw [hR], bel_row B3 _ (Nat.le_refl _) _⟩
    · rw [if_neg (fun h => d2 h.2)] at hR
      have t2 : (E != 0) = true := by simpa using d2
      subst d1
      go_enter Tryz.func69, Tryz.ntmps69
      go_wp2_with (with_reducible refine (h1 _).mono ?_; rintro e w1 ⟨rfl, q1⟩)
      with_reducible refine (h2 _).mono ?_
      rintro e w2 ⟨rfl, q2⟩
      (have B2 := bthen (bthen B0 q1) q2; have k2 := (k0.below q1 k0.lt).below q2 (Nat.lt_of_lt_of_le k0.lt q1.size); have N2 := hN.below B2; obtain ⟨tt, fr, n2⟩ := N2; have n3 := (heap_alloc_old w2 (.cells #[.int .i64 (K : Int), .int .u64 (NN : Int), .int .u64 (D : Int)] 166) 0 (Array.getElem?_eq_some_iff.1 n2).1).trans n2; have k3 := k2.alloc (.cells #[.int .i64 (K : Int), .int .u64 (NN : Int), .int .u64 (D : Int)] 166); have B3 := B2.alloc (Nat.le_of_lt k2.lt) (.cells #[.int .i64 (K : Int), .int .u64 (NN : Int), .int .u64 (D : Int)] 166); clear B2 k2 n2 q1 q2 k0 B0)
      go_wp2_with (first | (refine wpList_load_row rfl 74 (.global 0) rfl 0 rfl tt psN fr _ n3 Tryz.underlying74 rfl infoPsN ?_) | (refine wpList_store_row rfl 74 (.tmp 4) (.tmp 25) rfl w.heap.size psN rfl rfl 74 _ k3 infoPsN rfl onePsN ?_) | (refine wpList_store_row rfl 74 (.tmp 4) (.tmp 32) rfl w.heap.size (psC ⟨i, GN, NN, D⟩) rfl rfl 74 _ k3 (infoPs _) rfl (onePs _) ?_))
      exact bodyPost_ret (v := psV pNone) (results_cell_row rfl _ _ w.heap.size 74 (psC pNone) (0, 0) _ rfl (k3.row _) Tryz.underlying74 rfl (infoPs _)) rfl ⟨by rw [hR], bel_row B3 _ (Nat.le_refl _) _⟩
  · rw [if_neg (fun h => d1 h.1)] at hR
    have t1 : (GE != 0) = true := by simpa using d1
    go_enter Tryz.func69, Tryz.ntmps69
    go_wp2_with (with_reducible refine (h1 _).mono ?_; rintro e w1 ⟨rfl, q1⟩)
    with_reducible refine (h2 _).mono ?_
    rintro e w2 ⟨rfl, q2⟩
    (have B2 := bthen (bthen B0 q1) q2; have k2 := (k0.below q1 k0.lt).below q2 (Nat.lt_of_lt_of_le k0.lt q1.size); have N2 := hN.below B2; obtain ⟨tt, fr, n2⟩ := N2; have n3 := (heap_alloc_old w2 (.cells #[.int .i64 (K : Int), .int .u64 (NN : Int), .int .u64 (D : Int)] 166) 0 (Array.getElem?_eq_some_iff.1 n2).1).trans n2; have k3 := k2.alloc (.cells #[.int .i64 (K : Int), .int .u64 (NN : Int), .int .u64 (D : Int)] 166); have B3 := B2.alloc (Nat.le_of_lt k2.lt) (.cells #[.int .i64 (K : Int), .int .u64 (NN : Int), .int .u64 (D : Int)] 166); clear B2 k2 n2 q1 q2 k0 B0)
    go_wp2_with (first | (refine wpList_load_row rfl 74 (.global 0) rfl 0 rfl tt psN fr _ n3 Tryz.underlying74 rfl infoPsN ?_) | (refine wpList_store_row rfl 74 (.tmp 4) (.tmp 25) rfl w.heap.size psN rfl rfl 74 _ k3 infoPsN rfl onePsN ?_) | (refine wpList_store_row rfl 74 (.tmp 4) (.tmp 32) rfl w.heap.size (psC ⟨i, GN, NN, D⟩) rfl rfl 74 _ k3 (infoPs _) rfl (onePs _) ?_))
    exact bodyPost_ret (v := psV pNone) (results_cell_row rfl _ _ w.heap.size 74 (psC pNone) (0, 0) _ rfl (k3.row _) Tryz.underlying74 rfl (infoPs _)) rfl ⟨by rw [hR], bel_row B3 _ (Nat.le_refl _) _⟩
end Go.Proofs.YtebkeocpojlepaaGreatDoor
