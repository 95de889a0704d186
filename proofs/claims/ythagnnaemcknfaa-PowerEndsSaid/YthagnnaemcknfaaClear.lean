/- Package clear: the iterator over the places of a text. -/
import Derived.RangeFuncNested
import Derived.RangeFuncBound
import Derived.RangeFuncCalls
import Derived.RangeFuncLeaves
import Derived.Shelf.Abstract
import Derived.Shelf.RegionOpen
import Derived.WalkKit
import Derived.OwnWalkIn
import Derived.TacticsInMore
import Derived.LoopNIn
import Derived.LoopIn
import Derived.Test.YthagnnaemcknfaaBytes
namespace Go.Proofs.Ythagnnaemcknfaa
open Go.RowKit Go.Shelf
attribute [local go_sem] Oper.semAt_some
set_option linter.unusedVariables false

/-- a byte of a text, another one behind its end -/
def byteOr (s : ByteArray) (d : UInt8) (j : Nat) : UInt8 := s.data.toList.getD j d

/-- what comes at place j of a text of n places: its number, and the three bytes there -/
abbrev encF (old a b : ByteArray) (behind : UInt8) (j : Fin old.size) : Array Value :=
  #[.int .i64 (j.1 : Int), .agg #[.int .u8 ((byteOr old 0 j.1).toNat : Int), .int .u8 ((byteOr a 255 j.1).toNat : Int), .int .u8 ((byteOr b behind j.1).toNat : Int)]]
/-- the first k places -/
def ups (n k : Nat) : List (Fin n) := (List.finRange n).take k
theorem ups_succ (n k : Nat) (h : k < n) : ups n (k + 1) = ups n k ++ [⟨k, h⟩] := by
  unfold ups; rw [List.take_succ_eq_append_getElem (by simpa using h)]; simp
theorem ups_length (n k : Nat) (h : k ≤ n) : (ups n k).length = k := by simp [ups, h]

theorem byteOr_lt (s : ByteArray) (d : UInt8) (j : Nat) (h : j < s.size) : byteOr s d j = s[j] := by
  unfold byteOr; rw [List.getD_eq_getElem?_getD, List.getElem?_eq_getElem (by simpa using h)]; rfl
theorem byteOr_ge (s : ByteArray) (d : UInt8) (j : Nat) (h : s.size ≤ j) : byteOr s d j = d := by
  unfold byteOr; rw [List.getD_eq_getElem?_getD, List.getElem?_eq_none (by simpa using h)]; rfl

theorem grown_of_below {w w' : World} (h : Below w.heap.size w w') : w.grownBy w' none := ⟨h.os, h.tape, h.output, h.size, fun k hk _ => h.block k hk⟩

/-- the blocks from lo to hi are as they were -/
def Mid (lo hi : Nat) (W W' : World) : Prop := W.heap.size ≤ W'.heap.size ∧ ∀ k, lo ≤ k → k < hi → W'.heap[k]? = W.heap[k]?
theorem Mid.refl (lo hi : Nat) (W : World) : Mid lo hi W W := ⟨Nat.le_refl _, fun _ _ _ => rfl⟩
theorem Mid.trans {lo hi : Nat} {A B C : World} (h : Mid lo hi A B) (k : Mid lo hi B C) : Mid lo hi A C := ⟨Nat.le_trans h.1 k.1, fun i h1 h2 => (k.2 i h1 h2).trans (h.2 i h1 h2)⟩
theorem Mid.cell {lo hi : Nat} {W W' : World} (h : Mid lo hi W W') {p : Addr} (h1 : lo ≤ p.block) (h2 : p.block < hi) : W'.cell? p = W.cell? p := World.cell?_of_block (w := W) (h.2 p.block h1 h2)
theorem Mid.of_below {lo hi B : Nat} {W W' : World} (h : Below B W W') (hB : hi ≤ B) : Mid lo hi W W' := ⟨h.size, fun k _ h2 => h.block k (by omega)⟩
theorem Mid.setCell {lo hi : Nat} {A W : World} (h : Mid lo hi A W) (p : Addr) (hp : p.block < lo ∨ hi ≤ p.block) (v : Value) : Mid lo hi A (W.setCell p v) :=
  ⟨by rw [World.size_setCell]; exact h.1, fun k h1 h2 => (Below.heap_setCell W p v k (by omega)).trans (h.2 k h1 h2)⟩
theorem Mid.alloc {lo hi : Nat} {A W : World} (h : Mid lo hi A W) (hh : hi ≤ W.heap.size) (o : Obj) : Mid lo hi A (W.alloc o) := h.trans (Mid.of_below ((Below.refl W.heap.size W).alloc (Nat.le_refl _) o) hh)
theorem midK_b {lo hi s : Nat} (hs : hi ≤ s) (W : World) (l : Nat) (o o' : Obj) (hl : s ≤ l) (_ : W.heap[l]? = some o) (_ : o.isCells = false) (_ : o.isWalk = false) : Mid lo hi W (W.putObj l o') :=
  ⟨(grownBy_putObj' W l o').size, fun k _ h2 => World.putObj_heap_other (by omega)⟩

theorem h255 : (((255 : UInt8).toNat : Nat) : Int) = 255 := rfl

set_option maxRecDepth 100000 in
set_option maxHeartbeats 2000000 in
/-- places' closure, for every loop body that keeps what lay below n₀. -/
theorem places1_in (n : Nat) (hn : 1 ≤ n) (l Bo Ba Bb Bh lo hi : Nat) (old a b : ByteArray) (behind : UInt8)
    (hso : old.size ≤ maxLen) (hsa : a.size ≤ maxLen) (hsb : b.size ≤ maxLen) (ho : lo ≤ Bo ∧ Bo < hi) (ha : lo ≤ Ba ∧ Ba < hi) (hb : lo ≤ Bb ∧ Bb < hi) (hh : lo ≤ Bh ∧ Bh < hi) (J Jx : List (Fin old.size) → World → Prop)
    (hY : ∀ pre x W, J pre W → pre.length < old.size → YieldAt Fence.wide (n - 1) Try.prog l (encF old a b behind x) W fun e W' =>
      (e = .returned (.bool true) ∧ J (pre ++ [x]) W' ∧ Mid lo hi W W') ∨ (e = .returned (.bool false) ∧ Jx (pre ++ [x]) W'))
    (W : World) (hn0 : hi ≤ W.heap.size) (hJ : AbidesFrom W.heap.size J) (co : W.cell? ⟨Bo, 0, none⟩ = some (.string old)) (ca : W.cell? ⟨Ba, 0, none⟩ = some (.string a)) (cb : W.cell? ⟨Bb, 0, none⟩ = some (.string b)) (ch : W.cell? ⟨Bh, 0, none⟩ = some (.int .u8 (behind.toNat : Int))) (h0 : J [] W) :
    CallsIn Fence.wide n Try.prog 30 #[.func (.yield l) #[] #[], .pointer (some ⟨Bo, 0, none⟩), .pointer (some ⟨Bh, 0, none⟩), .pointer (some ⟨Ba, 0, none⟩), .pointer (some ⟨Bb, 0, none⟩)] W fun e W' => (∃ v, e = .returned v) ∧
      ((∃ ys, ys = ups old.size old.size ∧ J ys W') ∨ (∃ pre, (∃ k, k ≤ old.size ∧ pre = ups old.size k) ∧ Jx pre W')) := by
  unfold maxLen at hso hsa hsb
  refine callsIn_of_wp Try.func30 rfl trivial ?_ rfl
  simp only [Try.ntmps30, List.size_toArray, List.length_cons, List.length_nil, Nat.reduceAdd, Nat.reduceSub, Array.replicate_succ, Array.replicate_zero, List.push_toArray, List.append_toArray, List.nil_append, List.cons_append]
  gi_wp2
  gi_loopw [10] (fun i wr => ∃ k : Nat, k ≤ old.size ∧ i = .int .i64 k ∧ J (ups old.size k) wr ∧ Mid lo hi W wr)
    (fun i _ => old.size - (intOf i).toNat)
  case atStart => exact ⟨0, Nat.zero_le _, rfl, h0, Mid.refl _ _ _⟩
  case round =>
    obtain ⟨k, hk, rfl, hJs, hnx⟩ := hrel
    have co' := (hnx.cell (p := ⟨Bo, 0, none⟩) ho.1 ho.2).trans co
    have ca' := (hnx.cell (p := ⟨Ba, 0, none⟩) ha.1 ha.2).trans ca
    have cb' := (hnx.cell (p := ⟨Bb, 0, none⟩) hb.1 hb.2).trans cb
    have ch' := (hnx.cell (p := ⟨Bh, 0, none⟩) hh.1 hh.2).trans ch
    clear co ca cb ch
    have hsz := hnx.1
    have zo : Bo < wr.heap.size := by omega
    have za : Ba < wr.heap.size := by omega
    have zb : Bb < wr.heap.size := by omega
    have zh : Bh < wr.heap.size := by omega
    by_cases hlt : k < old.size
    · have hold : byteOr old 0 k = old[k] := byteOr_lt old 0 k hlt
      by_cases hka : k < a.size
      · by_cases hkb : k < b.size
        · have hA := byteOr_lt a 255 k hka
          have hB := byteOr_lt b behind k hkb
          (have hBW : Below wr.heap.size wr (wr.alloc (.cells #[.int .u8 (old[k].toNat : Int), .int .u8 ((a[k]).toNat : Int), .int .u8 ((b[k]).toNat : Int)] 52)).drew := ((Below.refl _ wr).alloc (Nat.le_refl _) _).drew; have hnW := Mid.of_below (lo := lo) (hi := hi) hBW (by omega); obtain ⟨fn, tmps, assign, body, hy, hR⟩ := hY (ups old.size k) ⟨k, hlt⟩ _ (hJ _ _ _ none hJs (grown_of_below hBW) (fun r e => by cases e)) (by rw [ups_length _ _ hk]; exact hlt); dsimp only [encF] at hy; rw [hold, hA, hB] at hy; (try simp only [h255] at hy hR); gi_wp2; gi_region; gi_wp2; refine hR.mono ?_; rintro e W3 (⟨rfl, hJ3, hk3⟩ | ⟨rfl, hJx3⟩); (gi_wp2; go_roundw; (case rel => exact ⟨k + 1, by omega, by go_num, by rw [ups_succ _ _ hlt]; exact hJ3, (hnx.trans hnW).trans hk3⟩); (case measure => simp [intOf]; omega)); (gi_wp2; refine bodyPost_ret (results_none rfl _ _ _) rfl ?_; exact ⟨⟨_, rfl⟩, .inr ⟨_, ⟨k + 1, by omega, (ups_succ _ _ hlt).symm⟩, hJx3⟩⟩))
        · have hA := byteOr_lt a 255 k hka
          have hB := byteOr_ge b behind k (by omega)
          (have hBW : Below wr.heap.size wr (wr.alloc (.cells #[.int .u8 (old[k].toNat : Int), .int .u8 ((a[k]).toNat : Int), .int .u8 ((behind).toNat : Int)] 52)).drew := ((Below.refl _ wr).alloc (Nat.le_refl _) _).drew; have hnW := Mid.of_below (lo := lo) (hi := hi) hBW (by omega); obtain ⟨fn, tmps, assign, body, hy, hR⟩ := hY (ups old.size k) ⟨k, hlt⟩ _ (hJ _ _ _ none hJs (grown_of_below hBW) (fun r e => by cases e)) (by rw [ups_length _ _ hk]; exact hlt); dsimp only [encF] at hy; rw [hold, hA, hB] at hy; (try simp only [h255] at hy hR); gi_wp2; gi_region; gi_wp2; refine hR.mono ?_; rintro e W3 (⟨rfl, hJ3, hk3⟩ | ⟨rfl, hJx3⟩); (gi_wp2; go_roundw; (case rel => exact ⟨k + 1, by omega, by go_num, by rw [ups_succ _ _ hlt]; exact hJ3, (hnx.trans hnW).trans hk3⟩); (case measure => simp [intOf]; omega)); (gi_wp2; refine bodyPost_ret (results_none rfl _ _ _) rfl ?_; exact ⟨⟨_, rfl⟩, .inr ⟨_, ⟨k + 1, by omega, (ups_succ _ _ hlt).symm⟩, hJx3⟩⟩))
      · by_cases hkb : k < b.size
        · have hA := byteOr_ge a 255 k (by omega)
          have hB := byteOr_lt b behind k hkb
          (have hBW : Below wr.heap.size wr (wr.alloc (.cells #[.int .u8 (old[k].toNat : Int), .int .u8 (((255 : UInt8)).toNat : Int), .int .u8 ((b[k]).toNat : Int)] 52)).drew := ((Below.refl _ wr).alloc (Nat.le_refl _) _).drew; have hnW := Mid.of_below (lo := lo) (hi := hi) hBW (by omega); obtain ⟨fn, tmps, assign, body, hy, hR⟩ := hY (ups old.size k) ⟨k, hlt⟩ _ (hJ _ _ _ none hJs (grown_of_below hBW) (fun r e => by cases e)) (by rw [ups_length _ _ hk]; exact hlt); dsimp only [encF] at hy; rw [hold, hA, hB] at hy; (try simp only [h255] at hy hR); gi_wp2; gi_region; gi_wp2; refine hR.mono ?_; rintro e W3 (⟨rfl, hJ3, hk3⟩ | ⟨rfl, hJx3⟩); (gi_wp2; go_roundw; (case rel => exact ⟨k + 1, by omega, by go_num, by rw [ups_succ _ _ hlt]; exact hJ3, (hnx.trans hnW).trans hk3⟩); (case measure => simp [intOf]; omega)); (gi_wp2; refine bodyPost_ret (results_none rfl _ _ _) rfl ?_; exact ⟨⟨_, rfl⟩, .inr ⟨_, ⟨k + 1, by omega, (ups_succ _ _ hlt).symm⟩, hJx3⟩⟩))
        · have hA := byteOr_ge a 255 k (by omega)
          have hB := byteOr_ge b behind k (by omega)
          (have hBW : Below wr.heap.size wr (wr.alloc (.cells #[.int .u8 (old[k].toNat : Int), .int .u8 (((255 : UInt8)).toNat : Int), .int .u8 ((behind).toNat : Int)] 52)).drew := ((Below.refl _ wr).alloc (Nat.le_refl _) _).drew; have hnW := Mid.of_below (lo := lo) (hi := hi) hBW (by omega); obtain ⟨fn, tmps, assign, body, hy, hR⟩ := hY (ups old.size k) ⟨k, hlt⟩ _ (hJ _ _ _ none hJs (grown_of_below hBW) (fun r e => by cases e)) (by rw [ups_length _ _ hk]; exact hlt); dsimp only [encF] at hy; rw [hold, hA, hB] at hy; (try simp only [h255] at hy hR); gi_wp2; gi_region; gi_wp2; refine hR.mono ?_; rintro e W3 (⟨rfl, hJ3, hk3⟩ | ⟨rfl, hJx3⟩); (gi_wp2; go_roundw; (case rel => exact ⟨k + 1, by omega, by go_num, by rw [ups_succ _ _ hlt]; exact hJ3, (hnx.trans hnW).trans hk3⟩); (case measure => simp [intOf]; omega)); (gi_wp2; refine bodyPost_ret (results_none rfl _ _ _) rfl ?_; exact ⟨⟨_, rfl⟩, .inr ⟨_, ⟨k + 1, by omega, (ups_succ _ _ hlt).symm⟩, hJx3⟩⟩))
    · obtain rfl : k = old.size := by omega
      gi_wp2
      go_end0
      exact ⟨⟨_, rfl⟩, .inl ⟨_, rfl, hJs⟩⟩

set_option maxHeartbeats 1000000 in
/-- places: the four arguments are boxed; the function value captures the boxes. -/
theorem places_in (n : Nat) (old a b : ByteArray) (h : Int) (w : World) :
    CallsIn Fence.wide n Try.prog 20 #[.string old, .string a, .string b, .int .u8 h] w fun e w' =>
      e = .returned (.func (.func 30) #[] #[.pointer (some ⟨w.heap.size, 0, none⟩), .pointer (some ⟨w.heap.size + 1 + 1 + 1, 0, none⟩), .pointer (some ⟨w.heap.size + 1, 0, none⟩), .pointer (some ⟨w.heap.size + 1 + 1, 0, none⟩)]) ∧
      w' = (((w.alloc (.cells #[.string old] 9)).alloc (.cells #[.string a] 9)).alloc (.cells #[.string b] 9)).alloc (.cells #[.int .u8 h] 5) := by
  refine callsIn_of_wp Try.func20 rfl trivial ?_ rfl
  simp only [Try.ntmps20, List.size_toArray, List.length_cons, List.length_nil, Nat.reduceAdd, Nat.reduceSub, Array.replicate_succ, Array.replicate_zero, List.push_toArray, List.append_toArray, List.nil_append, List.cons_append]
  gi_wp2
  go_ret
  exact ⟨rfl, rfl⟩

/-- what places hands back stops: all places of old, in order; or some of the first. -/
theorem places_stops (n : Nat) (hn : 1 ≤ n) (Bo Ba Bb Bh lo hi : Nat) (old a b : ByteArray) (behind : UInt8) (w : World)
    (hso : old.size ≤ maxLen) (hsa : a.size ≤ maxLen) (hsb : b.size ≤ maxLen) (ho : lo ≤ Bo ∧ Bo < hi) (ha : lo ≤ Ba ∧ Ba < hi) (hb : lo ≤ Bb ∧ Bb < hi) (hh : lo ≤ Bh ∧ Bh < hi) (hhi : hi ≤ w.heap.size)
    (co : w.cell? ⟨Bo, 0, none⟩ = some (.string old)) (ca : w.cell? ⟨Ba, 0, none⟩ = some (.string a)) (cb : w.cell? ⟨Bb, 0, none⟩ = some (.string b)) (ch : w.cell? ⟨Bh, 0, none⟩ = some (.int .u8 (behind.toNat : Int))) :
    SeqStopsK Fence.wide n Try.prog 30 #[.pointer (some ⟨Bo, 0, none⟩), .pointer (some ⟨Bh, 0, none⟩), .pointer (some ⟨Ba, 0, none⟩), .pointer (some ⟨Bb, 0, none⟩)] (encF old a b behind) (Mid lo hi)
      (fun ys => ys = ups old.size old.size) (fun pre => ∃ k, k ≤ old.size ∧ pre = ups old.size k) old.size w := fun l J Jx W hW hJ _ hY h0 => by
  have hlt : hi ≤ W.heap.size := Nat.le_trans hhi hW.size
  exact places1_in n hn l Bo Ba Bb Bh lo hi old a b behind hso hsa hsb ho ha hb hh J Jx hY W hlt hJ
    ((hW.cell (p := ⟨Bo, 0, none⟩) (by show Bo < _; omega)).trans co) ((hW.cell (p := ⟨Ba, 0, none⟩) (by show Ba < _; omega)).trans ca) ((hW.cell (p := ⟨Bb, 0, none⟩) (by show Bb < _; omega)).trans cb) ((hW.cell (p := ⟨Bh, 0, none⟩) (by show Bh < _; omega)).trans ch) h0

end Go.Proofs.Ythagnnaemcknfaa
