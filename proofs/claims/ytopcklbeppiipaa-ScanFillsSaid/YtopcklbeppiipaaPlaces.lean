/- Package bank: the iterator over the places of a bank. -/
import Derived.RangeFuncNested
import Derived.RangeFuncBound
import Derived.RangeFuncCalls
import Derived.RangeFuncLeaves
import Derived.Shelf.Abstract
import Derived.Shelf.RegionOpen
import Derived.WalkKit
import Derived.OwnWalkIn
import Derived.TacticsInMore
import Derived.Deep.RegionWith
import Derived.LoopNIn
import Derived.LoopIn
import Derived.Test.YtopcklbeppiipaaGood
import Derived.Test.YtopcklbeppiipaaBankL
import Derived.Test.YtopcklbeppiipaaMid
namespace Go.Proofs.Ytopcklbeppiipaa
open Go.RowKit Go.Shelf
attribute [local go_sem] Oper.semAt_some
set_option linter.unusedVariables false

/-- how many places a bank has -/
def placeN (s : ByteArray) : Nat := if s.size % 24 = 0 ∧ 48 ≤ s.size ∧ s.size ≤ 312 then s.size / 24 else 0
def place (s : ByteArray) (j : Nat) : ByteArray := s.extract (24 * j) (24 * j + 24)
abbrev encP (s : ByteArray) (j : Fin (placeN s)) : Array Value := #[.int .i64 (j.1 : Int), .string (place s j.1)]
theorem placeN_pos {s : ByteArray} (h : 0 < placeN s) : s.size = 24 * placeN s ∧ 2 ≤ placeN s ∧ placeN s ≤ 13 := by
  unfold placeN at h ⊢
  split at h
  · rename_i h2; rw [if_pos h2]; omega
  · omega
theorem placeN_slots (s : ByteArray) : slotsL (s.size : Int) = (placeN s : Int) - (if 0 < placeN s then 1 else 0) := by
  unfold slotsL placeN
  by_cases h : s.size % 24 = 0 ∧ 48 ≤ s.size ∧ s.size ≤ 312
  · rw [if_pos (by omega), if_pos h, if_pos (by omega)]; omega
  · rw [if_neg (by omega), if_neg h]; simp

/-- what a yield answers: go on, or stop -/
def yP (A B : World → Prop) (e : Ending) (W' : World) : Prop := ∃ b : Bool, e = .returned (.bool b) ∧ Hid ((b = true ∧ A W') ∨ (b = false ∧ B W'))

set_option maxRecDepth 100000 in
set_option maxHeartbeats 2000000 in
theorem places1_in (n : Nat) (hn : 1 ≤ n) (l Bs lo hi : Nat) (s : ByteArray) (hs : s.size ≤ maxLen) (hb : lo ≤ Bs ∧ Bs < hi) (J Jx : List (Fin (placeN s)) → World → Prop)
    (hY : ∀ pre x W, J pre W → pre.length < placeN s → YieldAt Fence.wide (n - 1) Try.prog l (encP s x) W fun e W' =>
      (e = .returned (.bool true) ∧ J (pre ++ [x]) W' ∧ Mid lo hi W W') ∨ (e = .returned (.bool false) ∧ Jx (pre ++ [x]) W'))
    (W : World) (hn0 : hi ≤ W.heap.size) (hJ : AbidesFrom W.heap.size J) (co : W.cell? ⟨Bs, 0, none⟩ = some (.string s)) (h0 : J [] W) :
    CallsIn Fence.wide n Try.prog 39 #[.func (.yield l) #[] #[], .pointer (some ⟨Bs, 0, none⟩)] W fun e W' => (∃ v, e = .returned v) ∧
      ((∃ ys, ys = ups (placeN s) (placeN s) ∧ J ys W') ∨ (∃ pre, (∃ k, k ≤ placeN s ∧ pre = ups (placeN s) k) ∧ Jx pre W')) := by
  unfold maxLen at hs
  have hsl := slots_any (s.size : Int)
  rw [placeN_slots] at hsl
  by_cases hN : placeN s = 0
  · rw [hN] at hsl
    simp only [Nat.lt_irrefl, if_false, Int.sub_zero] at hsl
    refine callsIn_of_wp Try.func39 rfl trivial ?_ rfl
    simp only [Try.ntmps39, List.size_toArray, List.length_cons, List.length_nil, Nat.reduceAdd, Nat.reduceSub, Array.replicate_succ, Array.replicate_zero, List.push_toArray, List.append_toArray, List.nil_append, List.cons_append]
    gi_wp2_with (refine ⟨trivial, ?_⟩; refine (callsIn_wide.2 (hsl _ (by omega) (by omega))).mono ?_; rintro e w' ⟨rfl, rfl⟩)
    gi_loopw [4] (fun i wr => i = .int .i64 0 ∧ J (ups (placeN s) 0) wr) (fun i _ => 0)
    case atStart => exact ⟨rfl, h0⟩
    case round =>
      obtain ⟨rfl, hJs⟩ := hrel
      gi_wp2
      go_end0
      exact ⟨⟨_, rfl⟩, .inl ⟨_, rfl, (congrArg (fun q => J (ups (placeN s) q) wr) hN.symm).mp hJs⟩⟩
  · obtain ⟨hsz, hp2, hp13⟩ := placeN_pos (by omega : 0 < placeN s)
    obtain ⟨m, hm⟩ : ∃ m, placeN s = m + 1 := ⟨placeN s - 1, by omega⟩
    have hsl2 : ∀ w : World, Calls Try.prog 40 #[.int .i64 (s.size : Int)] w fun e w' => e = .returned (.int .i64 (m : Int)) ∧ w = w' := fun w => by
      have h := hsl w (by omega) (by omega)
      rw [if_pos (by omega), show (placeN s : Int) - 1 = (m : Int) by omega] at h
      exact h
    have hm1 : 1 ≤ m := by omega
    have hm12 : m ≤ 12 := by omega
    have HM := Lib.hid hm
    have HSZ := Lib.hid hsz
    clear hsl hm hsz
    refine callsIn_of_wp Try.func39 rfl trivial ?_ rfl
    simp only [Try.ntmps39, List.size_toArray, List.length_cons, List.length_nil, Nat.reduceAdd, Nat.reduceSub, Array.replicate_succ, Array.replicate_zero, List.push_toArray, List.append_toArray, List.nil_append, List.cons_append]
    gi_wp2_with (refine ⟨trivial, ?_⟩; (with_reducible refine (callsIn_wide.2 (hsl2 _)).mono ?_); rintro e w' ⟨rfl, rfl⟩)
    gi_loopw [4] (fun i wr => ∃ k : Nat, k ≤ placeN s ∧ i = .int .i64 k ∧ J (ups (placeN s) k) wr ∧ Mid lo hi W wr) (fun i _ => placeN s - (intOf i).toNat)
    case atStart => exact ⟨0, Nat.zero_le _, rfl, h0, Mid.refl _ _ _⟩
    case round =>
      obtain ⟨k, hk, rfl, hJs, hnx⟩ := hrel
      have co' := (hnx.cell (p := ⟨Bs, 0, none⟩) hb.1 hb.2).trans co
      have hszw := hnx.1
      have zo : Bs < wr.heap.size := by omega
      clear co
      by_cases hlt : k < placeN s
      · have hkm : k ≤ m := by have := HM.out; omega
        have hsz := HSZ.out
        have hBW : Below wr.heap.size wr wr.drew := (Below.refl _ wr).drew
        have hnW := Mid.of_below (lo := lo) (hi := hi) hBW (by omega)
        obtain ⟨fn, tmps, assign, body, hy, hR⟩ := hY (ups (placeN s) k) ⟨k, hlt⟩ _ (hJ _ _ _ none hJs (grown_of_below hBW) (fun r e => by cases e)) (by rw [ups_length _ _ hk]; exact hlt)
        dsimp only [encP] at hy
        have hat := at_any (k : Int)
        obtain ⟨q, hq⟩ : ∃ q, q = 24 * k := ⟨_, rfl⟩
        rw [show atL (k : Int) = (q : Int) from by unfold atL; rw [if_pos (by omega)]; omega] at hat
        have q1 : (q : Int) ≤ (s.size : Int) := by omega
        obtain ⟨X, hX⟩ : ∃ X, s.extract q s.size = X := ⟨_, rfl⟩
        have q2 : (24 : Int) ≤ (X.size : Int) := by rw [← hX, ByteArray.size_extract]; omega
        have hpl : X.extract 0 24 = place s k := by
          rw [← hX]; unfold place; rw [ByteArray.extract_extract, Nat.min_eq_left (by omega), Nat.add_zero, hq]
        generalize place s k = Y at *
        have q3 : (0 : Int) ≤ (q : Int) := by omega
        clear hq
        clear hJ hY hsz
        gi_wp2
        have hR2 := (hR.mono : _ → RoundIn Fence.wide (n - 1) Try.prog l fn tmps assign body wr.drew (yP (fun W' => J (ups (placeN s) k ++ [⟨k, hlt⟩]) W' ∧ Mid lo hi wr.drew W') (fun W' => Jx (ups (placeN s) k ++ [⟨k, hlt⟩]) W'))) (fun e W' h => by
          rcases h with ⟨h1, h2, h3⟩ | ⟨h1, h2⟩
          · exact ⟨true, h1, Lib.hid (.inl ⟨rfl, h2, h3⟩)⟩
          · exact ⟨false, h1, Lib.hid (.inr ⟨rfl, h2⟩)⟩)
        have hnot : ∀ (x : Bool) (w : World), (Op.unary .not (.bool x)).run Try.prog w = .ok (.bool (!x)) w := fun _ _ => rfl
        clear hR
        gi_region_with (first | (refine ⟨trivial, ?_⟩; (with_reducible refine (callsIn_wide.2 (hat _)).mono ?_); rintro e w' ⟨rfl, rfl⟩) | (refine hR2.mono ?_; rintro e W3 ⟨b, rfl, hb⟩))
        all_goals
          rcases (hb : (_ ∧ _) ∨ (_ ∧ _)) with ⟨rfl, hJ3, hk3⟩ | ⟨rfl, hJx3⟩
          · gi_wp2
            go_roundw
            case rel => exact ⟨k + 1, by omega, by go_num, by rw [ups_succ _ _ hlt]; exact hJ3, (hnx.trans hnW).trans hk3⟩
            case measure => simp [intOf]; omega
          · gi_wp2
            refine bodyPost_ret (results_none rfl _ _ _) rfl ?_
            exact ⟨⟨_, rfl⟩, .inr ⟨_, ⟨k + 1, by omega, (ups_succ _ _ hlt).symm⟩, hJx3⟩⟩
      · obtain rfl : k = placeN s := by omega
        have hmp : (m : Int) < (placeN s : Int) := by have := HM.out; omega
        have hmp2 : m < placeN s := by omega
        clear hJ hY
        gi_wp2
        go_end0
        exact ⟨⟨_, rfl⟩, .inl ⟨_, rfl, hJs⟩⟩

/-- places: its argument is boxed; the function value captures the box. -/
theorem places_in (n : Nat) (s : ByteArray) (w : World) :
    CallsIn Fence.wide n Try.prog 28 #[.string s] w fun e w' =>
      e = .returned (.func (.func 39) #[] #[.pointer (some ⟨w.heap.size, 0, none⟩)]) ∧ w' = w.alloc (.cells #[.string s] 9) := by
  refine callsIn_of_wp Try.func28 rfl trivial ?_ rfl
  simp only [Try.ntmps28, List.size_toArray, List.length_cons, List.length_nil, Nat.reduceAdd, Nat.reduceSub, Array.replicate_succ, Array.replicate_zero, List.push_toArray, List.append_toArray, List.nil_append, List.cons_append]
  gi_wp2
  go_ret
  exact ⟨rfl, rfl⟩

/-- what places hands back stops. -/
theorem places_stops (n : Nat) (hn : 1 ≤ n) (Bs lo hi : Nat) (s : ByteArray) (w : World) (hs : s.size ≤ maxLen) (hb : lo ≤ Bs ∧ Bs < hi) (hhi : hi ≤ w.heap.size)
    (co : w.cell? ⟨Bs, 0, none⟩ = some (.string s)) :
    SeqStopsK Fence.wide n Try.prog 39 #[.pointer (some ⟨Bs, 0, none⟩)] (encP s) (Mid lo hi)
      (fun ys => ys = ups (placeN s) (placeN s)) (fun pre => ∃ k, k ≤ placeN s ∧ pre = ups (placeN s) k) (placeN s) w := fun l J Jx W hW hJ _ hY h0 => by
  have hlt : hi ≤ W.heap.size := Nat.le_trans hhi hW.size
  exact places1_in n hn l Bs lo hi s hs hb J Jx hY W hlt hJ ((hW.cell (p := ⟨Bs, 0, none⟩) (by show Bs < _; omega)).trans co) h0
end Go.Proofs.Ytopcklbeppiipaa
