/- Contracts and plain laws, put together: Clear, ClearAnd, Seq. -/
import Derived.RangeFuncNested
import Derived.RangeFuncBound
import Derived.RangeFuncCalls
import Derived.RangeFuncLeaves
import Derived.Shelf.Abstract
import Derived.Shelf.RegionOpen
import Derived.WalkKit
import Derived.OwnWalkIn
import Derived.TacticsInMore
import Derived.LoopNIn
import Derived.LoopIn
import Derived.Test.YtebkeocpojlepaaGreatDoorG07
import Derived.Test.YtebkeocpojlepaaGreatDoorG15
/- Package clear: the iterator over the places of a text. -/
namespace Go.Proofs.YtebkeocpojlepaaGreatDoor
open Go.RowKit Go.Shelf
attribute [local go_sem] Oper.semAt_some
set_option linter.unusedVariables false

/-- a byte of a text, another one behind its end -/
def byteOr (s : ByteArray) (d : UInt8) (j : Nat) : UInt8 := s.data.toList.getD j d

/-- what comes at place j of a text of n places: its number, and the three bytes there -/
abbrev encF (old a b : ByteArray) (behind : UInt8) (j : Fin old.size) : Array Value :=
  #[.int .i64 (j.1 : Int), .agg #[.int .u8 ((byteOr old 0 j.1).toNat : Int), .int .u8 ((byteOr a 255 j.1).toNat : Int), .int .u8 ((byteOr b behind j.1).toNat : Int)]]
theorem byteOr_lt (s : ByteArray) (d : UInt8) (j : Nat) (h : j < s.size) : byteOr s d j = s[j] := by
  unfold byteOr; rw [List.getD_eq_getElem?_getD, List.getElem?_eq_getElem (by simpa using h)]; rfl
theorem byteOr_ge (s : ByteArray) (d : UInt8) (j : Nat) (h : s.size ≤ j) : byteOr s d j = d := by
  unfold byteOr; rw [List.getD_eq_getElem?_getD, List.getElem?_eq_none (by simpa using h)]; rfl

theorem h255 : (((255 : UInt8).toNat : Nat) : Int) = 255 := rfl

set_option maxRecDepth 100000 in
set_option maxHeartbeats 2000000 in
/-- places' closure, for every loop body that keeps what lay below n₀. -/
theorem cplaces1_in (n : Nat) (hn : 1 ≤ n) (l Bo Ba Bb Bh lo hi : Nat) (old a b : ByteArray) (behind : UInt8)
    (hso : old.size ≤ maxLen) (hsa : a.size ≤ maxLen) (hsb : b.size ≤ maxLen) (ho : lo ≤ Bo ∧ Bo < hi) (ha : lo ≤ Ba ∧ Ba < hi) (hb : lo ≤ Bb ∧ Bb < hi) (hh : lo ≤ Bh ∧ Bh < hi) (J Jx : List (Fin old.size) → World → Prop)
    (hY : ∀ pre x W, J pre W → pre.length < old.size → YieldAt Fence.wide (n - 1) Tryz.prog l (encF old a b behind x) W fun e W' =>
      (e = .returned (.bool true) ∧ J (pre ++ [x]) W' ∧ Mid lo hi W W') ∨ (e = .returned (.bool false) ∧ Jx (pre ++ [x]) W'))
    (W : World) (hn0 : hi ≤ W.heap.size) (hJ : AbidesFrom W.heap.size J) (co : W.cell? ⟨Bo, 0, none⟩ = some (.string old)) (ca : W.cell? ⟨Ba, 0, none⟩ = some (.string a)) (cb : W.cell? ⟨Bb, 0, none⟩ = some (.string b)) (ch : W.cell? ⟨Bh, 0, none⟩ = some (.int .u8 (behind.toNat : Int))) (h0 : J [] W) :
    CallsIn Fence.wide n Tryz.prog 147 #[.func (.yield l) #[] #[], .pointer (some ⟨Bo, 0, none⟩), .pointer (some ⟨Bh, 0, none⟩), .pointer (some ⟨Ba, 0, none⟩), .pointer (some ⟨Bb, 0, none⟩)] W fun e W' => (∃ v, e = .returned v) ∧
      ((∃ ys, ys = ups old.size old.size ∧ J ys W') ∨ (∃ pre, (∃ k, k ≤ old.size ∧ pre = ups old.size k) ∧ Jx pre W')) := by
  unfold maxLen at hso hsa hsb
  refine callsIn_of_wp Tryz.func147 rfl trivial ?_ rfl
  simp only [Tryz.ntmps147, List.size_toArray, List.length_cons, List.length_nil, Nat.reduceAdd, Nat.reduceSub, Array.replicate_succ, Array.replicate_zero, List.push_toArray, List.append_toArray, List.nil_append, List.cons_append]
  gi_wp2
  gi_loopw [10] (fun i wr => ∃ k : Nat, k ≤ old.size ∧ i = .int .i64 k ∧ J (ups old.size k) wr ∧ Mid lo hi W wr)
    (fun i _ => old.size - (intOf i).toNat)
  case atStart => exact ⟨0, Nat.zero_le _, rfl, h0, Mid.refl _ _ _⟩
  case round =>
    obtain ⟨k, hk, rfl, hJs, hnx⟩ := hrel
    have co' := (hnx.cell (p := ⟨Bo, 0, none⟩) ho.1 ho.2).trans co
    have ca' := (hnx.cell (p := ⟨Ba, 0, none⟩) ha.1 ha.2).trans ca
    have cb' := (hnx.cell (p := ⟨Bb, 0, none⟩) hb.1 hb.2).trans cb
    have ch' := (hnx.cell (p := ⟨Bh, 0, none⟩) hh.1 hh.2).trans ch
    clear co ca cb ch
    have hsz := hnx.1
    have zo : Bo < wr.heap.size := by omega
    have za : Ba < wr.heap.size := by omega
    have zb : Bb < wr.heap.size := by omega
    have zh : Bh < wr.heap.size := by omega
    by_cases hlt : k < old.size
    · have hold : byteOr old 0 k = old[k] := byteOr_lt old 0 k hlt
      by_cases hka : k < a.size
      · by_cases hkb : k < b.size
        · have hA := byteOr_lt a 255 k hka
          have hB := byteOr_lt b behind k hkb
          (have hBW : Below wr.heap.size wr (wr.alloc (.cells #[.int .u8 (old[k].toNat : Int), .int .u8 ((a[k]).toNat : Int), .int .u8 ((b[k]).toNat : Int)] 217)).drew := ((Below.refl _ wr).alloc (Nat.le_refl _) _).drew; have hnW := Mid.of_below (lo := lo) (hi := hi) hBW (by omega); obtain ⟨fn, tmps, assign, body, hy, hR⟩ := hY (ups old.size k) ⟨k, hlt⟩ _ (hJ _ _ _ none hJs (grown_of_below hBW) (fun r e => by cases e)) (by rw [ups_length _ _ hk]; exact hlt); dsimp only [encF] at hy; rw [hold, hA, hB] at hy; (try simp only [h255] at hy hR); gi_wp2; gi_region; gi_wp2; refine hR.mono ?_; rintro e W3 (⟨rfl, hJ3, hk3⟩ | ⟨rfl, hJx3⟩); (gi_wp2; go_roundw; (case rel => exact ⟨k + 1, by omega, by go_num, by rw [ups_succ _ _ hlt]; exact hJ3, (hnx.trans hnW).trans hk3⟩); (case measure => simp [intOf]; omega)); (gi_wp2; refine bodyPost_ret (results_none rfl _ _ _) rfl ?_; exact ⟨⟨_, rfl⟩, .inr ⟨_, ⟨k + 1, by omega, (ups_succ _ _ hlt).symm⟩, hJx3⟩⟩))
        · have hA := byteOr_lt a 255 k hka
          have hB := byteOr_ge b behind k (by omega)
          (have hBW : Below wr.heap.size wr (wr.alloc (.cells #[.int .u8 (old[k].toNat : Int), .int .u8 ((a[k]).toNat : Int), .int .u8 ((behind).toNat : Int)] 217)).drew := ((Below.refl _ wr).alloc (Nat.le_refl _) _).drew; have hnW := Mid.of_below (lo := lo) (hi := hi) hBW (by omega); obtain ⟨fn, tmps, assign, body, hy, hR⟩ := hY (ups old.size k) ⟨k, hlt⟩ _ (hJ _ _ _ none hJs (grown_of_below hBW) (fun r e => by cases e)) (by rw [ups_length _ _ hk]; exact hlt); dsimp only [encF] at hy; rw [hold, hA, hB] at hy; (try simp only [h255] at hy hR); gi_wp2; gi_region; gi_wp2; refine hR.mono ?_; rintro e W3 (⟨rfl, hJ3, hk3⟩ | ⟨rfl, hJx3⟩); (gi_wp2; go_roundw; (case rel => exact ⟨k + 1, by omega, by go_num, by rw [ups_succ _ _ hlt]; exact hJ3, (hnx.trans hnW).trans hk3⟩); (case measure => simp [intOf]; omega)); (gi_wp2; refine bodyPost_ret (results_none rfl _ _ _) rfl ?_; exact ⟨⟨_, rfl⟩, .inr ⟨_, ⟨k + 1, by omega, (ups_succ _ _ hlt).symm⟩, hJx3⟩⟩))
      · by_cases hkb : k < b.size
        · have hA := byteOr_ge a 255 k (by omega)
          have hB := byteOr_lt b behind k hkb
          (have hBW : Below wr.heap.size wr (wr.alloc (.cells #[.int .u8 (old[k].toNat : Int), .int .u8 (((255 : UInt8)).toNat : Int), .int .u8 ((b[k]).toNat : Int)] 217)).drew := ((Below.refl _ wr).alloc (Nat.le_refl _) _).drew; have hnW := Mid.of_below (lo := lo) (hi := hi) hBW (by omega); obtain ⟨fn, tmps, assign, body, hy, hR⟩ := hY (ups old.size k) ⟨k, hlt⟩ _ (hJ _ _ _ none hJs (grown_of_below hBW) (fun r e => by cases e)) (by rw [ups_length _ _ hk]; exact hlt); dsimp only [encF] at hy; rw [hold, hA, hB] at hy; (try simp only [h255] at hy hR); gi_wp2; gi_region; gi_wp2; refine hR.mono ?_; rintro e W3 (⟨rfl, hJ3, hk3⟩ | ⟨rfl, hJx3⟩); (gi_wp2; go_roundw; (case rel => exact ⟨k + 1, by omega, by go_num, by rw [ups_succ _ _ hlt]; exact hJ3, (hnx.trans hnW).trans hk3⟩); (case measure => simp [intOf]; omega)); (gi_wp2; refine bodyPost_ret (results_none rfl _ _ _) rfl ?_; exact ⟨⟨_, rfl⟩, .inr ⟨_, ⟨k + 1, by omega, (ups_succ _ _ hlt).symm⟩, hJx3⟩⟩))
        · have hA := byteOr_ge a 255 k (by omega)
          have hB := byteOr_ge b behind k (by omega)
          (have hBW : Below wr.heap.size wr (wr.alloc (.cells #[.int .u8 (old[k].toNat : Int), .int .u8 (((255 : UInt8)).toNat : Int), .int .u8 ((behind).toNat : Int)] 217)).drew := ((Below.refl _ wr).alloc (Nat.le_refl _) _).drew; have hnW := Mid.of_below (lo := lo) (hi := hi) hBW (by omega); obtain ⟨fn, tmps, assign, body, hy, hR⟩ := hY (ups old.size k) ⟨k, hlt⟩ _ (hJ _ _ _ none hJs (grown_of_below hBW) (fun r e => by cases e)) (by rw [ups_length _ _ hk]; exact hlt); dsimp only [encF] at hy; rw [hold, hA, hB] at hy; (try simp only [h255] at hy hR); gi_wp2; gi_region; gi_wp2; refine hR.mono ?_; rintro e W3 (⟨rfl, hJ3, hk3⟩ | ⟨rfl, hJx3⟩); (gi_wp2; go_roundw; (case rel => exact ⟨k + 1, by omega, by go_num, by rw [ups_succ _ _ hlt]; exact hJ3, (hnx.trans hnW).trans hk3⟩); (case measure => simp [intOf]; omega)); (gi_wp2; refine bodyPost_ret (results_none rfl _ _ _) rfl ?_; exact ⟨⟨_, rfl⟩, .inr ⟨_, ⟨k + 1, by omega, (ups_succ _ _ hlt).symm⟩, hJx3⟩⟩))
    · obtain rfl : k = old.size := by omega
      gi_wp2
      go_end0
      exact ⟨⟨_, rfl⟩, .inl ⟨_, rfl, hJs⟩⟩

set_option maxHeartbeats 1000000 in
/-- places: the four arguments are boxed; the function value captures the boxes. -/
theorem cplaces_in (n : Nat) (old a b : ByteArray) (h : Int) (w : World) :
    CallsIn Fence.wide n Tryz.prog 140 #[.string old, .string a, .string b, .int .u8 h] w fun e w' =>
      e = .returned (.func (.func 147) #[] #[.pointer (some ⟨w.heap.size, 0, none⟩), .pointer (some ⟨w.heap.size + 1 + 1 + 1, 0, none⟩), .pointer (some ⟨w.heap.size + 1, 0, none⟩), .pointer (some ⟨w.heap.size + 1 + 1, 0, none⟩)]) ∧
      w' = (((w.alloc (.cells #[.string old] 9)).alloc (.cells #[.string a] 9)).alloc (.cells #[.string b] 9)).alloc (.cells #[.int .u8 h] 5) := by
  refine callsIn_of_wp Tryz.func140 rfl trivial ?_ rfl
  simp only [Tryz.ntmps140, List.size_toArray, List.length_cons, List.length_nil, Nat.reduceAdd, Nat.reduceSub, Array.replicate_succ, Array.replicate_zero, List.push_toArray, List.append_toArray, List.nil_append, List.cons_append]
  gi_wp2
  go_ret
  exact ⟨rfl, rfl⟩

/-- what places hands back stops: all places of old, in order; or some of the first. -/
theorem cplaces_stops (n : Nat) (hn : 1 ≤ n) (Bo Ba Bb Bh lo hi : Nat) (old a b : ByteArray) (behind : UInt8) (w : World)
    (hso : old.size ≤ maxLen) (hsa : a.size ≤ maxLen) (hsb : b.size ≤ maxLen) (ho : lo ≤ Bo ∧ Bo < hi) (ha : lo ≤ Ba ∧ Ba < hi) (hb : lo ≤ Bb ∧ Bb < hi) (hh : lo ≤ Bh ∧ Bh < hi) (hhi : hi ≤ w.heap.size)
    (co : w.cell? ⟨Bo, 0, none⟩ = some (.string old)) (ca : w.cell? ⟨Ba, 0, none⟩ = some (.string a)) (cb : w.cell? ⟨Bb, 0, none⟩ = some (.string b)) (ch : w.cell? ⟨Bh, 0, none⟩ = some (.int .u8 (behind.toNat : Int))) :
    SeqStopsK Fence.wide n Tryz.prog 147 #[.pointer (some ⟨Bo, 0, none⟩), .pointer (some ⟨Bh, 0, none⟩), .pointer (some ⟨Ba, 0, none⟩), .pointer (some ⟨Bb, 0, none⟩)] (encF old a b behind) (Mid lo hi)
      (fun ys => ys = ups old.size old.size) (fun pre => ∃ k, k ≤ old.size ∧ pre = ups old.size k) old.size w := fun l J Jx W hW hJ _ hY h0 => by
  have hlt : hi ≤ W.heap.size := Nat.le_trans hhi hW.size
  exact cplaces1_in n hn l Bo Ba Bb Bh lo hi old a b behind hso hsa hsb ho ha hb hh J Jx hY W hlt hJ
    ((hW.cell (p := ⟨Bo, 0, none⟩) (by show Bo < _; omega)).trans co) ((hW.cell (p := ⟨Ba, 0, none⟩) (by show Ba < _; omega)).trans ca) ((hW.cell (p := ⟨Bb, 0, none⟩) (by show Bb < _; omega)).trans cb) ((hW.cell (p := ⟨Bh, 0, none⟩) (by show Bh < _; omega)).trans ch) h0

end Go.Proofs.YtebkeocpojlepaaGreatDoor

/- clear.And, clear.Torn, clear.May, clear.Bits: what each answers. -/
namespace Go.Proofs.YtebkeocpojlepaaGreatDoor
open Go.RowKit Go.Shelf
attribute [local go_sem] Oper.semAt_some
set_option linter.unusedVariables false


/-- the bytes written so far, place by place -/
def outL {n : Nat} (g : Fin n → UInt8) (pre : List (Fin n)) : List UInt8 := pre.foldl (fun l j => l.set j.1 (g j)) (List.replicate n 0)
theorem outL_snoc {n : Nat} (g : Fin n → UInt8) (pre : List (Fin n)) (j : Fin n) : outL g (pre ++ [j]) = (outL g pre).set j.1 (g j) := by simp [outL, List.foldl_append]
theorem outL_length {n : Nat} (g : Fin n → UInt8) (pre : List (Fin n)) : (outL g pre).length = n := by
  unfold outL
  suffices h : ∀ (l : List UInt8), l.length = n → (pre.foldl (fun l j => l.set j.1 (g j)) l).length = n from h _ (by simp)
  induction pre with
  | nil => intro l hl; exact hl
  | cons j pre ih => intro l hl; exact ih _ (by simpa using hl)

/-- what And answers, byte by byte -/
def andF (old a : ByteArray) (j : Fin old.size) : UInt8 := byteOr old 0 j.1 &&& byteOr a 255 j.1

theorem u8_and2 (x y : UInt8) : bits .and .u8 (x.toNat : Int) (y.toNat : Int) = ((x &&& y).toNat : Int) := by
  rw [u8_and_nat _ _ x.toNat_lt y.toNat_lt, ← UInt8.toNat_and]

theorem u8_andNot2 (x y : UInt8) : bits .andNot .u8 (x.toNat : Int) (y.toNat : Int) = ((x &&& ~~~y).toNat : Int) := by
  rw [u8_andNot_nat _ _ x.toNat_lt y.toNat_lt, UInt8.toNat_and, UInt8.toNat_not]; rfl

/-- what Torn answers, byte by byte -/
def tornF (old a b : ByteArray) (j : Fin old.size) : UInt8 := byteOr old 0 j.1 &&& ~~~(byteOr old 0 j.1 &&& ~~~(byteOr a 255 j.1) &&& byteOr b 0 j.1)

set_option maxRecDepth 100000 in
set_option maxHeartbeats 2000000 in
theorem And_in (n : Nat) (hn : 4 ≤ n) (old a : ByteArray) (hso : old.size ≤ 140737488355328) (hsa : a.size ≤ maxLen) (w : World) :
    CallsIn Fence.wide n Tryz.prog 139 #[.string old, .string a] w fun e w' =>
      e = .returned (.string ⟨(outL (andF old a) (ups old.size old.size)).toArray⟩) ∧ Below w.heap.size w w' := by
  have h1 : 1 ≤ n := by omega
  have hmk := mk_bytes old.size hso
  refine callsIn_of_wp_marks Tryz.func139 rfl trivial ?_ rfl
  simp only [Tryz.ntmps139, List.size_toArray, List.length_cons, List.length_nil, Nat.reduceAdd, Nat.reduceSub, Array.replicate_succ, Array.replicate_zero, List.push_toArray, List.append_toArray, List.nil_append, List.cons_append]
  gi_wp2_with (refine ⟨trivial, ?_⟩; refine (cplaces_in (n - 1) old a ⟨#[]⟩ 0 _).mono ?_; rintro e w' ⟨rfl, rfl⟩)
  have b0 := Blk.new w 5 (bcells (List.replicate old.size 0)).toArray
  have b1 := Blk.new (w.alloc (.cells (bcells (List.replicate old.size 0)).toArray 5)) 108 #[.slice (some ⟨w.heap.size, 0, none⟩) old.size old.size]
  have hB0 : Below w.heap.size w ((w.alloc (.cells (bcells (List.replicate old.size 0)).toArray 5)).alloc (.cells #[.slice (some ⟨w.heap.size, 0, none⟩) old.size old.size] 108)) := ((Below.refl _ w).alloc (Nat.le_refl _) _).alloc (by simp) _
  have b0' := b0.alloc (.cells #[.slice (some ⟨w.heap.size, 0, none⟩) old.size old.size] 108)
  have hsz : ((w.alloc (.cells (bcells (List.replicate old.size 0)).toArray 5)).alloc (.cells #[.slice (some ⟨w.heap.size, 0, none⟩) old.size old.size] 108)).heap.size = w.heap.size + 2 := by simp
  rw [World.size_alloc] at b1
  generalize ((w.alloc (.cells (bcells (List.replicate old.size 0)).toArray 5)).alloc (.cells #[.slice (some ⟨w.heap.size, 0, none⟩) old.size old.size] 108)) = W1 at *
  clear b0
  have c1 := Blk.new W1 9 #[.string old]
  have c2 := Blk.new (W1.alloc (.cells #[.string old] 9)) 9 #[.string a]
  have c3 := Blk.new ((W1.alloc (.cells #[.string old] 9)).alloc (.cells #[.string a] 9)) 9 #[.string ⟨#[]⟩]
  have c4 := Blk.new (((W1.alloc (.cells #[.string old] 9)).alloc (.cells #[.string a] 9)).alloc (.cells #[.string ⟨#[]⟩] 9)) 5 #[.int .u8 0]
  have k1 := ((c1.alloc (.cells #[.string a] 9)).alloc (.cells #[.string ⟨#[]⟩] 9)).alloc (.cells #[.int .u8 0] 5)
  have k2 := (c2.alloc (.cells #[.string ⟨#[]⟩] 9)).alloc (.cells #[.int .u8 0] 5)
  have k3 := c3.alloc (.cells #[.int .u8 0] 5)
  have d0 := (((b0'.alloc (.cells #[.string old] 9)).alloc (.cells #[.string a] 9)).alloc (.cells #[.string ⟨#[]⟩] 9)).alloc (.cells #[.int .u8 0] 5)
  have d1 := (((b1.alloc (.cells #[.string old] 9)).alloc (.cells #[.string a] 9)).alloc (.cells #[.string ⟨#[]⟩] 9)).alloc (.cells #[.int .u8 0] 5)
  simp only [World.size_alloc] at k2 k3 c4
  have hB2 : Below w.heap.size w ((((W1.alloc (.cells #[.string old] 9)).alloc (.cells #[.string a] 9)).alloc (.cells #[.string ⟨#[]⟩] 9)).alloc (.cells #[.int .u8 0] 5)) := (((hB0.alloc hB0.size _).alloc (by simp; omega) _).alloc (by simp; omega) _).alloc (by simp; omega) _
  have hsz2 : ((((W1.alloc (.cells #[.string old] 9)).alloc (.cells #[.string a] 9)).alloc (.cells #[.string ⟨#[]⟩] 9)).alloc (.cells #[.int .u8 0] 5)).heap.size = W1.heap.size + 4 := by simp
  generalize ((((W1.alloc (.cells #[.string old] 9)).alloc (.cells #[.string a] 9)).alloc (.cells #[.string ⟨#[]⟩] 9)).alloc (.cells #[.int .u8 0] 5)) = W0 at *
  clear c1 c2 c3 b0' b1 hB0
  rw [hsz] at k1 k2 k3 c4 hsz2
  have e1 : W0.heap.size = w.heap.size + 6 := by omega
  refine wpIn_rangeFunc_ownH rfl h1 (gf := 147) (lb := #[.pointer (some ⟨w.heap.size + 2, 0, none⟩), .pointer (some ⟨w.heap.size + 2 + 1 + 1 + 1, 0, none⟩), .pointer (some ⟨w.heap.size + 2 + 1, 0, none⟩), .pointer (some ⟨w.heap.size + 2 + 1 + 1, 0, none⟩)]) rfl trivial (enters_of Tryz.func147 (by kernel_rfl) rfl)
    (cplaces_stops (n - 1) (by omega) (w.heap.size + 2) (w.heap.size + 2 + 1) (w.heap.size + 2 + 1 + 1) (w.heap.size + 2 + 1 + 1 + 1) (w.heap.size + 2) (w.heap.size + 6) old a ⟨#[]⟩ 0 W0 (by unfold maxLen; omega) hsa (by decide) (by omega) (by omega) (by omega) (by omega) (by omega) (k1.cell 0) (k2.cell 0) (k3.cell 0) (c4.cell 0))
    (fun h k => Mid.trans h k) (midK_b (by omega)) (Below.refl _ _) (fun _ => rfl)
    (fun pre W => (Blk W (w.heap.size + 1) 108 #[.slice (some ⟨w.heap.size, 0, none⟩) old.size old.size] ∧ Blk W w.heap.size 5 (bcells (outL (andF old a) pre)).toArray) ∧ (Below w.heap.size w W ∧ w.heap.size + 6 ≤ W.heap.size))
    (fun _ _ _ => False)
    (OwnFrom.and (OwnFrom.and (Own.from (blk_own _ _ _) _) (Own.from (blk_own _ _ _) _)) (OwnFrom.and (ownFrom_below (Nat.le_refl _) (by omega)) (fun _ _ _ _ hs hg _ => Nat.le_trans hs hg.size)))
    (fun _ _ _ _ _ hs _ _ => hs)
    ⟨⟨d1, d0⟩, hB2, by omega⟩
    (fun x a' W => ∃ Bx, w.heap.size + 6 ≤ Bx ∧ Blk W Bx 217 #[.int .u8 ((byteOr old 0 x.1).toNat : Int), .int .u8 ((byteOr a 255 x.1).toNat : Int), .int .u8 ((byteOr ⟨#[]⟩ 0 x.1).toNat : Int)] ∧ a' = { tmps := #[.string old, .string a, undef, undef, .string ⟨#[]⟩, .pointer (some ⟨w.heap.size + 1, 0, none⟩), .int .i64 (x.1 : Int), .pointer (some ⟨Bx, 0, none⟩), .string old, .int .i64 old.size, .slice (some ⟨w.heap.size, 0, none⟩) old.size old.size, .string old, .string a, .func (.func 147) #[] #[.pointer (some ⟨w.heap.size + 1 + 1, 0, none⟩), .pointer (some ⟨w.heap.size + 1 + 1 + 1 + 1 + 1, 0, none⟩), .pointer (some ⟨w.heap.size + 1 + 1 + 1, 0, none⟩), .pointer (some ⟨w.heap.size + 1 + 1 + 1 + 1, 0, none⟩)], .int .i64 (x.1 : Int), .agg #[.int .u8 ((byteOr old 0 x.1).toNat : Int), .int .u8 ((byteOr a 255 x.1).toNat : Int), .int .u8 ((byteOr ⟨#[]⟩ 0 x.1).toNat : Int)], undef, undef, undef, undef, undef, undef, undef, undef, undef, undef], defers := [] })
    (fun x a' _ X Y row hs hg hr => by obtain ⟨Bx, h1, h2, h3⟩ := hs; exact ⟨Bx, h1, blk_own Bx _ (fun (_ : Unit) => #[.int .u8 ((byteOr old 0 x.1).toNat : Int), .int .u8 ((byteOr a 255 x.1).toNat : Int), .int .u8 ((byteOr ⟨#[]⟩ 0 x.1).toNat : Int)]) () X Y row h2 hg (fun r e => (hr r e).2), h3⟩)
    ?assign ?body ?done ?stop
  case assign =>
    rintro l pre x W K ⟨⟨bS1, bB1⟩, hB1, hW6⟩ hK
    have hW := hB1.size
    have hW2 := bS1.lt
    gi_wp2
    exact hK _ _ ((KeepsOthers.alloc _ _).from _) ((Mid.refl _ _ W).alloc (by omega) _) ⟨⟨bS1.alloc _, bB1.alloc _⟩, hB1.alloc hB1.size _, by simp; omega⟩ ⟨W.heap.size, by omega, Blk.new W _ _, rfl⟩
  case body =>
    rintro l pre x a' W hl ⟨r, hr⟩ ⟨⟨bS1, bB1⟩, hB1, hW6⟩ ⟨Bx, hBx, bX, rfl⟩ hlt
    have cS := bS1.cell 0
    have cX0 := bX.cell 0
    have cX1 := bX.cell 1
    have hx := x.2
    have hol := outL_length (andF old a) pre
    obtain ⟨y, cB⟩ : ∃ y : Int, W.cell? ⟨w.heap.size, x.1, none⟩ = some (.int .u8 y) := ⟨((outL (andF old a) pre)[x.1]'(by omega)).toNat, by rw [bB1.cell]; simp [bcells, hol, hx]⟩
    have fB := bB1.frozen x.1
    have hz := u8_and2 (byteOr old 0 x.1) (byteOr a 255 x.1)
    have hset := bcells_set (outL (andF old a) pre) x.1 (byteOr old 0 x.1 &&& byteOr a 255 x.1)
    have bB2 := bB1.set x.1 (.int .u8 ((byteOr old 0 x.1 &&& byteOr a 255 x.1).toNat : Int))
    have bS2 := bS1.other ⟨w.heap.size, x.1, none⟩ (by simp) (.int .u8 ((byteOr old 0 x.1 &&& byteOr a 255 x.1).toNat : Int))
    rw [hset, show outL (andF old a) pre = outL (andF old a) pre from rfl] at bB2
    have hsn : (outL (andF old a) pre).set x.1 (byteOr old 0 x.1 &&& byteOr a 255 x.1) = outL (andF old a) (pre ++ [x]) := (outL_snoc _ _ _).symm
    rw [hsn] at bB2
    have HB := Lib.hid bB2
    have HS := Lib.hid bS2
    clear bB2 bS2 hset hsn hol bS1 bB1 bX
    obtain ⟨z, hzz⟩ : ∃ z, z = byteOr old 0 x.1 &&& byteOr a 255 x.1 := ⟨_, rfl⟩
    rw [← hzz] at hz HB HS
    clear hzz
    gi_wp2
    exact ⟨(KeepsOthers.setCell _ _ _).from _, (Mid.refl _ _ W).setCell _ (by simp) _, ⟨⟨HS.out, HB.out⟩, hB1.setCell (p := ⟨w.heap.size, x.1, none⟩) (by simp) _, by rw [World.size_setCell]; exact hW6⟩⟩
  case done =>
    rintro D zs W hD rfl ⟨⟨bS1, bB1⟩, hB1, hW6⟩ hK
    have cS := bS1.cell 0
    have hcv : (convert 108 9 (.slice (some ⟨w.heap.size, 0, none⟩) old.size old.size)).run Tryz.prog W = .ok (.string ⟨(outL (andF old a) (ups old.size old.size)).toArray⟩) W := by
      have hc := conv_cells W w.heap.size 0 old.size (outL (andF old a) (ups old.size old.size)) (fun j hj => by rw [Nat.zero_add, bB1.cell]; simp [bcells, hj])
      rw [outL_length] at hc
      exact hc
    gi_wp2
    refine ⟨by simp, .inl ⟨_, _, rfl, run_takeDeferred hK, ?_⟩⟩
    exact ⟨_, results_tmp rfl _ _ _, rfl, hB1.trans (belowK_b (w := w) (Nat.le_refl _) W D _ _ (by omega) hK rfl rfl)⟩
  case stop =>
    rintro D c pre W _ _ h _
    exact h.elim
set_option maxRecDepth 100000 in
set_option maxHeartbeats 2000000 in
theorem Torn_in (n : Nat) (hn : 4 ≤ n) (old a b : ByteArray) (hso : old.size ≤ 140737488355328) (hsa : a.size ≤ maxLen) (hsb : b.size ≤ maxLen) (w : World) :
    CallsIn Fence.wide n Tryz.prog 121 #[.string old, .string a, .string b] w fun e w' =>
      e = .returned (.string ⟨(outL (tornF old a b) (ups old.size old.size)).toArray⟩) ∧ Below w.heap.size w w' := by
  have h1 : 1 ≤ n := by omega
  have hmk := mk_bytes old.size hso
  refine callsIn_of_wp_marks Tryz.func121 rfl trivial ?_ rfl
  simp only [Tryz.ntmps121, List.size_toArray, List.length_cons, List.length_nil, Nat.reduceAdd, Nat.reduceSub, Array.replicate_succ, Array.replicate_zero, List.push_toArray, List.append_toArray, List.nil_append, List.cons_append]
  gi_wp2_with (refine ⟨trivial, ?_⟩; refine (cplaces_in (n - 1) old a b 0 _).mono ?_; rintro e w' ⟨rfl, rfl⟩)
  have b0 := Blk.new w 5 (bcells (List.replicate old.size 0)).toArray
  have b1 := Blk.new (w.alloc (.cells (bcells (List.replicate old.size 0)).toArray 5)) 108 #[.slice (some ⟨w.heap.size, 0, none⟩) old.size old.size]
  have hB0 : Below w.heap.size w ((w.alloc (.cells (bcells (List.replicate old.size 0)).toArray 5)).alloc (.cells #[.slice (some ⟨w.heap.size, 0, none⟩) old.size old.size] 108)) := ((Below.refl _ w).alloc (Nat.le_refl _) _).alloc (by simp) _
  have b0' := b0.alloc (.cells #[.slice (some ⟨w.heap.size, 0, none⟩) old.size old.size] 108)
  have hsz : ((w.alloc (.cells (bcells (List.replicate old.size 0)).toArray 5)).alloc (.cells #[.slice (some ⟨w.heap.size, 0, none⟩) old.size old.size] 108)).heap.size = w.heap.size + 2 := by simp
  rw [World.size_alloc] at b1
  generalize ((w.alloc (.cells (bcells (List.replicate old.size 0)).toArray 5)).alloc (.cells #[.slice (some ⟨w.heap.size, 0, none⟩) old.size old.size] 108)) = W1 at *
  clear b0
  have c1 := Blk.new W1 9 #[.string old]
  have c2 := Blk.new (W1.alloc (.cells #[.string old] 9)) 9 #[.string a]
  have c3 := Blk.new ((W1.alloc (.cells #[.string old] 9)).alloc (.cells #[.string a] 9)) 9 #[.string b]
  have c4 := Blk.new (((W1.alloc (.cells #[.string old] 9)).alloc (.cells #[.string a] 9)).alloc (.cells #[.string b] 9)) 5 #[.int .u8 0]
  have k1 := ((c1.alloc (.cells #[.string a] 9)).alloc (.cells #[.string b] 9)).alloc (.cells #[.int .u8 0] 5)
  have k2 := (c2.alloc (.cells #[.string b] 9)).alloc (.cells #[.int .u8 0] 5)
  have k3 := c3.alloc (.cells #[.int .u8 0] 5)
  have d0 := (((b0'.alloc (.cells #[.string old] 9)).alloc (.cells #[.string a] 9)).alloc (.cells #[.string b] 9)).alloc (.cells #[.int .u8 0] 5)
  have d1 := (((b1.alloc (.cells #[.string old] 9)).alloc (.cells #[.string a] 9)).alloc (.cells #[.string b] 9)).alloc (.cells #[.int .u8 0] 5)
  simp only [World.size_alloc] at k2 k3 c4
  have hB2 : Below w.heap.size w ((((W1.alloc (.cells #[.string old] 9)).alloc (.cells #[.string a] 9)).alloc (.cells #[.string b] 9)).alloc (.cells #[.int .u8 0] 5)) := (((hB0.alloc hB0.size _).alloc (by simp; omega) _).alloc (by simp; omega) _).alloc (by simp; omega) _
  have hsz2 : ((((W1.alloc (.cells #[.string old] 9)).alloc (.cells #[.string a] 9)).alloc (.cells #[.string b] 9)).alloc (.cells #[.int .u8 0] 5)).heap.size = W1.heap.size + 4 := by simp
  generalize ((((W1.alloc (.cells #[.string old] 9)).alloc (.cells #[.string a] 9)).alloc (.cells #[.string b] 9)).alloc (.cells #[.int .u8 0] 5)) = W0 at *
  clear c1 c2 c3 b0' b1 hB0
  rw [hsz] at k1 k2 k3 c4 hsz2
  have e1 : W0.heap.size = w.heap.size + 6 := by omega
  refine wpIn_rangeFunc_ownH rfl h1 (gf := 147) (lb := #[.pointer (some ⟨w.heap.size + 2, 0, none⟩), .pointer (some ⟨w.heap.size + 2 + 1 + 1 + 1, 0, none⟩), .pointer (some ⟨w.heap.size + 2 + 1, 0, none⟩), .pointer (some ⟨w.heap.size + 2 + 1 + 1, 0, none⟩)]) rfl trivial (enters_of Tryz.func147 (by kernel_rfl) rfl)
    (cplaces_stops (n - 1) (by omega) (w.heap.size + 2) (w.heap.size + 2 + 1) (w.heap.size + 2 + 1 + 1) (w.heap.size + 2 + 1 + 1 + 1) (w.heap.size + 2) (w.heap.size + 6) old a b 0 W0 (by unfold maxLen; omega) hsa hsb (by omega) (by omega) (by omega) (by omega) (by omega) (k1.cell 0) (k2.cell 0) (k3.cell 0) (c4.cell 0))
    (fun h k => Mid.trans h k) (midK_b (by omega)) (Below.refl _ _) (fun _ => rfl)
    (fun pre W => (Blk W (w.heap.size + 1) 108 #[.slice (some ⟨w.heap.size, 0, none⟩) old.size old.size] ∧ Blk W w.heap.size 5 (bcells (outL (tornF old a b) pre)).toArray) ∧ (Below w.heap.size w W ∧ w.heap.size + 6 ≤ W.heap.size))
    (fun _ _ _ => False)
    (OwnFrom.and (OwnFrom.and (Own.from (blk_own _ _ _) _) (Own.from (blk_own _ _ _) _)) (OwnFrom.and (ownFrom_below (Nat.le_refl _) (by omega)) (fun _ _ _ _ hs hg _ => Nat.le_trans hs hg.size)))
    (fun _ _ _ _ _ hs _ _ => hs)
    ⟨⟨d1, d0⟩, hB2, by omega⟩
    (fun x a' W => ∃ Bx, w.heap.size + 6 ≤ Bx ∧ Blk W Bx 217 #[.int .u8 ((byteOr old 0 x.1).toNat : Int), .int .u8 ((byteOr a 255 x.1).toNat : Int), .int .u8 ((byteOr b 0 x.1).toNat : Int)] ∧ a' = { tmps := #[.string old, .string a, .string b, undef, undef, undef, .string ⟨#[]⟩, .pointer (some ⟨w.heap.size + 1, 0, none⟩), .int .i64 (x.1 : Int), .pointer (some ⟨Bx, 0, none⟩), .string old, .int .i64 old.size, .slice (some ⟨w.heap.size, 0, none⟩) old.size old.size, .string old, .string a, .string b, .func (.func 147) #[] #[.pointer (some ⟨w.heap.size + 1 + 1, 0, none⟩), .pointer (some ⟨w.heap.size + 1 + 1 + 1 + 1 + 1, 0, none⟩), .pointer (some ⟨w.heap.size + 1 + 1 + 1, 0, none⟩), .pointer (some ⟨w.heap.size + 1 + 1 + 1 + 1, 0, none⟩)], .int .i64 (x.1 : Int), .agg #[.int .u8 ((byteOr old 0 x.1).toNat : Int), .int .u8 ((byteOr a 255 x.1).toNat : Int), .int .u8 ((byteOr b 0 x.1).toNat : Int)], undef, undef, undef, undef, undef, undef, undef, undef, undef, undef, undef, undef, undef, undef, undef, undef], defers := [] })
    (fun x a' _ X Y row hs hg hr => by obtain ⟨Bx, h1, h2, h3⟩ := hs; exact ⟨Bx, h1, blk_own Bx _ (fun (_ : Unit) => #[.int .u8 ((byteOr old 0 x.1).toNat : Int), .int .u8 ((byteOr a 255 x.1).toNat : Int), .int .u8 ((byteOr b 0 x.1).toNat : Int)]) () X Y row h2 hg (fun r e => (hr r e).2), h3⟩)
    ?assign ?body ?done ?stop
  case assign =>
    rintro l pre x W K ⟨⟨bS1, bB1⟩, hB1, hW6⟩ hK
    have hW := hB1.size
    have hW2 := bS1.lt
    gi_wp2
    exact hK _ _ ((KeepsOthers.alloc _ _).from _) ((Mid.refl _ _ W).alloc (by omega) _) ⟨⟨bS1.alloc _, bB1.alloc _⟩, hB1.alloc hB1.size _, by simp; omega⟩ ⟨W.heap.size, by omega, Blk.new W _ _, rfl⟩
  case body =>
    rintro l pre x a' W hl ⟨r, hr⟩ ⟨⟨bS1, bB1⟩, hB1, hW6⟩ ⟨Bx, hBx, bX, rfl⟩ hlt
    have cS := bS1.cell 0
    have cX0 := bX.cell 0
    have cX1 := bX.cell 1
    have cX2 := bX.cell 2
    have hx := x.2
    have hol := outL_length (tornF old a b) pre
    obtain ⟨y, cB⟩ : ∃ y : Int, W.cell? ⟨w.heap.size, x.1, none⟩ = some (.int .u8 y) := ⟨((outL (tornF old a b) pre)[x.1]'(by omega)).toNat, by rw [bB1.cell]; simp [bcells, hol, hx]⟩
    have fB := bB1.frozen x.1
    have hz1 := u8_andNot2 (byteOr old 0 x.1) (byteOr a 255 x.1)
    have hz2 := u8_and2 (byteOr old 0 x.1 &&& ~~~(byteOr a 255 x.1)) (byteOr b 0 x.1)
    have hz := u8_andNot2 (byteOr old 0 x.1) (byteOr old 0 x.1 &&& ~~~(byteOr a 255 x.1) &&& byteOr b 0 x.1)
    have hset := bcells_set (outL (tornF old a b) pre) x.1 (byteOr old 0 x.1 &&& ~~~(byteOr old 0 x.1 &&& ~~~(byteOr a 255 x.1) &&& byteOr b 0 x.1))
    have bB2 := bB1.set x.1 (.int .u8 ((byteOr old 0 x.1 &&& ~~~(byteOr old 0 x.1 &&& ~~~(byteOr a 255 x.1) &&& byteOr b 0 x.1)).toNat : Int))
    have bS2 := bS1.other ⟨w.heap.size, x.1, none⟩ (by simp) (.int .u8 ((byteOr old 0 x.1 &&& ~~~(byteOr old 0 x.1 &&& ~~~(byteOr a 255 x.1) &&& byteOr b 0 x.1)).toNat : Int))
    rw [hset, show outL (tornF old a b) pre = outL (tornF old a b) pre from rfl] at bB2
    have hsn : (outL (tornF old a b) pre).set x.1 (byteOr old 0 x.1 &&& ~~~(byteOr old 0 x.1 &&& ~~~(byteOr a 255 x.1) &&& byteOr b 0 x.1)) = outL (tornF old a b) (pre ++ [x]) := (outL_snoc _ _ _).symm
    rw [hsn] at bB2
    have HB := Lib.hid bB2
    have HS := Lib.hid bS2
    clear bB2 bS2 hset hsn hol bS1 bB1 bX
    obtain ⟨z, hzz⟩ : ∃ z, z = byteOr old 0 x.1 &&& ~~~(byteOr old 0 x.1 &&& ~~~(byteOr a 255 x.1) &&& byteOr b 0 x.1) := ⟨_, rfl⟩
    rw [← hzz] at hz HB HS
    obtain ⟨z1, hzz1⟩ : ∃ z1, z1 = byteOr old 0 x.1 &&& ~~~(byteOr a 255 x.1) := ⟨_, rfl⟩
    obtain ⟨z2, hzz2⟩ : ∃ z2, z2 = z1 &&& byteOr b 0 x.1 := ⟨_, rfl⟩
    rw [← hzz1] at hz1 hz2 hz
    rw [← hzz2] at hz2 hz
    clear hzz hzz1 hzz2
    gi_wp2
    exact ⟨(KeepsOthers.setCell _ _ _).from _, (Mid.refl _ _ W).setCell _ (by simp) _, ⟨⟨HS.out, HB.out⟩, hB1.setCell (p := ⟨w.heap.size, x.1, none⟩) (by simp) _, by rw [World.size_setCell]; exact hW6⟩⟩
  case done =>
    rintro D zs W hD rfl ⟨⟨bS1, bB1⟩, hB1, hW6⟩ hK
    have cS := bS1.cell 0
    have hcv : (convert 108 9 (.slice (some ⟨w.heap.size, 0, none⟩) old.size old.size)).run Tryz.prog W = .ok (.string ⟨(outL (tornF old a b) (ups old.size old.size)).toArray⟩) W := by
      have hc := conv_cells W w.heap.size 0 old.size (outL (tornF old a b) (ups old.size old.size)) (fun j hj => by rw [Nat.zero_add, bB1.cell]; simp [bcells, hj])
      rw [outL_length] at hc
      exact hc
    gi_wp2
    refine ⟨by simp, .inl ⟨_, _, rfl, run_takeDeferred hK, ?_⟩⟩
    exact ⟨_, results_tmp rfl _ _ _, rfl, hB1.trans (belowK_b (w := w) (Nat.le_refl _) W D _ _ (by omega) hK rfl rfl)⟩
  case stop =>
    rintro D c pre W _ _ h _
    exact h.elim
end Go.Proofs.YtebkeocpojlepaaGreatDoor

/- slices.Values's closure over one number. -/
namespace Go.Proofs.YtebkeocpojlepaaGreatDoor
open Go.RowKit Go.Shelf
set_option linter.unusedVariables false
set_option linter.unusedSimpArgs false
attribute [local go_sem] Oper.semAt_some

set_option maxRecDepth 100000 in
set_option maxHeartbeats 2000000 in
theorem vals_one (n l Bs b cap : Nat) (v : Int) (W : World) (hBs : W.cell? ⟨Bs, 0, none⟩ = some (.slice (some ⟨b, 0, none⟩) 1 cap)) (hc : W.cell? ⟨b, 0, none⟩ = some (.int .i64 v)) (R : World → Prop)
    (hY : YieldAt Fence.wide (n - 1) Tryz.prog l #[.int .i64 v] W fun e W' => e = .returned (.bool true) ∧ R W') :
    CallsIn Fence.wide n Tryz.prog 124 #[.func (.yield l) #[] #[], .pointer (some ⟨Bs, 0, none⟩)] W fun e W' => (∃ v, e = .returned v) ∧ R W' := by
  refine callsIn_of_wp Tryz.func124 rfl trivial ?_ rfl
  simp only [Tryz.ntmps124, List.size_toArray, List.length_cons, List.length_nil, Nat.reduceAdd, Nat.reduceSub, Array.replicate_succ, Array.replicate_zero, List.push_toArray, List.append_toArray, List.nil_append, List.cons_append]
  gi_wp2
  gi_loopw [7] (fun i wr => (i = .int .i64 0 ∧ wr = W) ∨ (i = .int .i64 1 ∧ R wr)) (fun i _ => 1 - (intOf i).toNat)
  case atStart => exact .inl ⟨rfl, rfl⟩
  case round =>
    rcases hrel with ⟨rfl, rfl⟩ | ⟨rfl, hr⟩
    · obtain ⟨fn, tmps, assign, body, hy, hR⟩ := hY
      gi_wp2
      refine ⟨fun h => by simp [Fence.wide] at h, hR.mono ?_⟩
      rintro e W3 ⟨rfl, h3⟩
      gi_wp2
      go_roundw
      case rel => exact .inr ⟨by simp, h3⟩
      case measure => simp [intOf]
    · gi_wp2
      go_end0
      exact ⟨⟨_, rfl⟩, hr⟩
end Go.Proofs.YtebkeocpojlepaaGreatDoor
