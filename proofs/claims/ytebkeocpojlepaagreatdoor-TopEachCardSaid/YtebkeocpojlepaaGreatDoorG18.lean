/- Contracts and plain laws, put together: Places, Nth, BankS, States, BankP, Scan, ScanM, AndB, Js. -/
import Derived.RangeFuncNested
import Derived.RangeFuncBound
import Derived.RangeFuncCalls
import Derived.RangeFuncLeaves
import Derived.Shelf.Abstract
import Derived.Shelf.RegionOpen
import Derived.WalkKit
import Derived.OwnWalkIn
import Derived.TacticsInMore
import Derived.Deep.RegionWith
import Derived.LoopNIn
import Derived.LoopIn
import Derived.Test.YtebkeocpojlepaaGreatDoorG13
import Derived.Test.YtebkeocpojlepaaGreatDoorG07
import Derived.Test.YtebkeocpojlepaaGreatDoorG15
import Derived.WalkMore
import Derived.Test.YtebkeocpojlepaaGreatDoorG16
/- Package bank: the iterator over the places of a bank. -/
namespace Go.Proofs.YtebkeocpojlepaaGreatDoor
open Go.RowKit Go.Shelf
attribute [local go_sem] Oper.semAt_some
set_option linter.unusedVariables false

/-- how many places a bank has -/
def placeN (s : ByteArray) : Nat := if s.size % 24 = 0 ∧ 48 ≤ s.size ∧ s.size ≤ 312 then s.size / 24 else 0
def place (s : ByteArray) (j : Nat) : ByteArray := s.extract (24 * j) (24 * j + 24)
abbrev encP (s : ByteArray) (j : Fin (placeN s)) : Array Value := #[.int .i64 (j.1 : Int), .string (place s j.1)]
theorem placeN_pos {s : ByteArray} (h : 0 < placeN s) : s.size = 24 * placeN s ∧ 2 ≤ placeN s ∧ placeN s ≤ 13 := by
  unfold placeN at h ⊢
  split at h
  · rename_i h2; rw [if_pos h2]; omega
  · omega
theorem placeN_slots (s : ByteArray) : slotsL (s.size : Int) = (placeN s : Int) - (if 0 < placeN s then 1 else 0) := by
  unfold slotsL placeN
  by_cases h : s.size % 24 = 0 ∧ 48 ≤ s.size ∧ s.size ≤ 312
  · rw [if_pos (by omega), if_pos h, if_pos (by omega)]; omega
  · rw [if_neg (by omega), if_neg h]; simp

/-- what a yield answers: go on, or stop -/
def yP (A B : World → Prop) (e : Ending) (W' : World) : Prop := ∃ b : Bool, e = .returned (.bool b) ∧ Hid ((b = true ∧ A W') ∨ (b = false ∧ B W'))

set_option maxRecDepth 100000 in
set_option maxHeartbeats 2000000 in
theorem places1_in (n : Nat) (hn : 1 ≤ n) (l Bs lo hi : Nat) (s : ByteArray) (hs : s.size ≤ maxLen) (hb : lo ≤ Bs ∧ Bs < hi) (J Jx : List (Fin (placeN s)) → World → Prop)
    (hY : ∀ pre x W, J pre W → pre.length < placeN s → YieldAt Fence.wide (n - 1) Tryz.prog l (encP s x) W fun e W' =>
      (e = .returned (.bool true) ∧ J (pre ++ [x]) W' ∧ Mid lo hi W W') ∨ (e = .returned (.bool false) ∧ Jx (pre ++ [x]) W'))
    (W : World) (hn0 : hi ≤ W.heap.size) (hJ : AbidesFrom W.heap.size J) (co : W.cell? ⟨Bs, 0, none⟩ = some (.string s)) (h0 : J [] W) :
    CallsIn Fence.wide n Tryz.prog 143 #[.func (.yield l) #[] #[], .pointer (some ⟨Bs, 0, none⟩)] W fun e W' => (∃ v, e = .returned v) ∧
      ((∃ ys, ys = ups (placeN s) (placeN s) ∧ J ys W') ∨ (∃ pre, (∃ k, k ≤ placeN s ∧ pre = ups (placeN s) k) ∧ Jx pre W')) := by
  unfold maxLen at hs
  have hsl := slots_any (s.size : Int)
  rw [placeN_slots] at hsl
  by_cases hN : placeN s = 0
  · rw [hN] at hsl
    simp only [Nat.lt_irrefl, if_false, Int.sub_zero] at hsl
    refine callsIn_of_wp Tryz.func143 rfl trivial ?_ rfl
    simp only [Tryz.ntmps143, List.size_toArray, List.length_cons, List.length_nil, Nat.reduceAdd, Nat.reduceSub, Array.replicate_succ, Array.replicate_zero, List.push_toArray, List.append_toArray, List.nil_append, List.cons_append]
    gi_wp2_with (refine ⟨trivial, ?_⟩; refine (callsIn_wide.2 (hsl _ (by omega) (by omega))).mono ?_; rintro e w' ⟨rfl, rfl⟩)
    gi_loopw [4] (fun i wr => i = .int .i64 0 ∧ J (ups (placeN s) 0) wr) (fun i _ => 0)
    case atStart => exact ⟨rfl, h0⟩
    case round =>
      obtain ⟨rfl, hJs⟩ := hrel
      gi_wp2
      go_end0
      exact ⟨⟨_, rfl⟩, .inl ⟨_, rfl, (congrArg (fun q => J (ups (placeN s) q) wr) hN.symm).mp hJs⟩⟩
  · obtain ⟨hsz, hp2, hp13⟩ := placeN_pos (by omega : 0 < placeN s)
    obtain ⟨m, hm⟩ : ∃ m, placeN s = m + 1 := ⟨placeN s - 1, by omega⟩
    have hsl2 : ∀ w : World, Calls Tryz.prog 112 #[.int .i64 (s.size : Int)] w fun e w' => e = .returned (.int .i64 (m : Int)) ∧ w = w' := fun w => by
      have h := hsl w (by omega) (by omega)
      rw [if_pos (by omega), show (placeN s : Int) - 1 = (m : Int) by omega] at h
      exact h
    have hm1 : 1 ≤ m := by omega
    have hm12 : m ≤ 12 := by omega
    have HM := Lib.hid hm
    have HSZ := Lib.hid hsz
    clear hsl hm hsz
    refine callsIn_of_wp Tryz.func143 rfl trivial ?_ rfl
    simp only [Tryz.ntmps143, List.size_toArray, List.length_cons, List.length_nil, Nat.reduceAdd, Nat.reduceSub, Array.replicate_succ, Array.replicate_zero, List.push_toArray, List.append_toArray, List.nil_append, List.cons_append]
    gi_wp2_with (refine ⟨trivial, ?_⟩; (with_reducible refine (callsIn_wide.2 (hsl2 _)).mono ?_); rintro e w' ⟨rfl, rfl⟩)
    gi_loopw [4] (fun i wr => ∃ k : Nat, k ≤ placeN s ∧ i = .int .i64 k ∧ J (ups (placeN s) k) wr ∧ Mid lo hi W wr) (fun i _ => placeN s - (intOf i).toNat)
    case atStart => exact ⟨0, Nat.zero_le _, rfl, h0, Mid.refl _ _ _⟩
    case round =>
      obtain ⟨k, hk, rfl, hJs, hnx⟩ := hrel
      have co' := (hnx.cell (p := ⟨Bs, 0, none⟩) hb.1 hb.2).trans co
      have hszw := hnx.1
      have zo : Bs < wr.heap.size := by omega
      clear co
      by_cases hlt : k < placeN s
      · have hkm : k ≤ m := by have := HM.out; omega
        have hsz := HSZ.out
        have hBW : Below wr.heap.size wr wr.drew := (Below.refl _ wr).drew
        have hnW := Mid.of_below (lo := lo) (hi := hi) hBW (by omega)
        obtain ⟨fn, tmps, assign, body, hy, hR⟩ := hY (ups (placeN s) k) ⟨k, hlt⟩ _ (hJ _ _ _ none hJs (grown_of_below hBW) (fun r e => by cases e)) (by rw [ups_length _ _ hk]; exact hlt)
        dsimp only [encP] at hy
        have hat := at_any (k : Int)
        obtain ⟨q, hq⟩ : ∃ q, q = 24 * k := ⟨_, rfl⟩
        rw [show atL (k : Int) = (q : Int) from by unfold atL; rw [if_pos (by omega)]; omega] at hat
        have q1 : (q : Int) ≤ (s.size : Int) := by omega
        obtain ⟨X, hX⟩ : ∃ X, s.extract q s.size = X := ⟨_, rfl⟩
        have q2 : (24 : Int) ≤ (X.size : Int) := by rw [← hX, ByteArray.size_extract]; omega
        have hpl : X.extract 0 24 = place s k := by
          rw [← hX]; unfold place; rw [ByteArray.extract_extract, Nat.min_eq_left (by omega), Nat.add_zero, hq]
        generalize place s k = Y at *
        have q3 : (0 : Int) ≤ (q : Int) := by omega
        clear hq
        clear hJ hY hsz
        gi_wp2
        have hR2 := (hR.mono : _ → RoundIn Fence.wide (n - 1) Tryz.prog l fn tmps assign body wr.drew (yP (fun W' => J (ups (placeN s) k ++ [⟨k, hlt⟩]) W' ∧ Mid lo hi wr.drew W') (fun W' => Jx (ups (placeN s) k ++ [⟨k, hlt⟩]) W'))) (fun e W' h => by
          rcases h with ⟨h1, h2, h3⟩ | ⟨h1, h2⟩
          · exact ⟨true, h1, Lib.hid (.inl ⟨rfl, h2, h3⟩)⟩
          · exact ⟨false, h1, Lib.hid (.inr ⟨rfl, h2⟩)⟩)
        have hnot : ∀ (x : Bool) (w : World), (Op.unary .not (.bool x)).run Tryz.prog w = .ok (.bool (!x)) w := fun _ _ => rfl
        clear hR
        gi_region_with (first | (refine ⟨trivial, ?_⟩; (with_reducible refine (callsIn_wide.2 (hat _)).mono ?_); rintro e w' ⟨rfl, rfl⟩) | (refine hR2.mono ?_; rintro e W3 ⟨b, rfl, hb⟩))
        all_goals
          rcases (hb : (_ ∧ _) ∨ (_ ∧ _)) with ⟨rfl, hJ3, hk3⟩ | ⟨rfl, hJx3⟩
          · gi_wp2
            go_roundw
            case rel => exact ⟨k + 1, by omega, by go_num, by rw [ups_succ _ _ hlt]; exact hJ3, (hnx.trans hnW).trans hk3⟩
            case measure => simp [intOf]; omega
          · gi_wp2
            refine bodyPost_ret (results_none rfl _ _ _) rfl ?_
            exact ⟨⟨_, rfl⟩, .inr ⟨_, ⟨k + 1, by omega, (ups_succ _ _ hlt).symm⟩, hJx3⟩⟩
      · obtain rfl : k = placeN s := by omega
        have hmp : (m : Int) < (placeN s : Int) := by have := HM.out; omega
        have hmp2 : m < placeN s := by omega
        clear hJ hY
        gi_wp2
        go_end0
        exact ⟨⟨_, rfl⟩, .inl ⟨_, rfl, hJs⟩⟩

/-- places: its argument is boxed; the function value captures the box. -/
theorem places_in (n : Nat) (s : ByteArray) (w : World) :
    CallsIn Fence.wide n Tryz.prog 128 #[.string s] w fun e w' =>
      e = .returned (.func (.func 143) #[] #[.pointer (some ⟨w.heap.size, 0, none⟩)]) ∧ w' = w.alloc (.cells #[.string s] 9) := by
  refine callsIn_of_wp Tryz.func128 rfl trivial ?_ rfl
  simp only [Tryz.ntmps128, List.size_toArray, List.length_cons, List.length_nil, Nat.reduceAdd, Nat.reduceSub, Array.replicate_succ, Array.replicate_zero, List.push_toArray, List.append_toArray, List.nil_append, List.cons_append]
  gi_wp2
  go_ret
  exact ⟨rfl, rfl⟩

/-- what places hands back stops. -/
theorem places_stops (n : Nat) (hn : 1 ≤ n) (Bs lo hi : Nat) (s : ByteArray) (w : World) (hs : s.size ≤ maxLen) (hb : lo ≤ Bs ∧ Bs < hi) (hhi : hi ≤ w.heap.size)
    (co : w.cell? ⟨Bs, 0, none⟩ = some (.string s)) :
    SeqStopsK Fence.wide n Tryz.prog 143 #[.pointer (some ⟨Bs, 0, none⟩)] (encP s) (Mid lo hi)
      (fun ys => ys = ups (placeN s) (placeN s)) (fun pre => ∃ k, k ≤ placeN s ∧ pre = ups (placeN s) k) (placeN s) w := fun l J Jx W hW hJ _ hY h0 => by
  have hlt : hi ≤ W.heap.size := Nat.le_trans hhi hW.size
  exact places1_in n hn l Bs lo hi s hs hb J Jx hY W hlt hJ ((hW.cell (p := ⟨Bs, 0, none⟩) (by show Bs < _; omega)).trans co) h0
end Go.Proofs.YtebkeocpojlepaaGreatDoor

/- bank.nth at texts, over places; bank.Slot. -/
namespace Go.Proofs.YtebkeocpojlepaaGreatDoor
open Go.RowKit Go.Shelf
attribute [local go_sem] Oper.semAt_some
set_option linter.unusedVariables false

theorem mem_ups (n : Nat) (j : Fin n) : j ∈ ups n n := by
  unfold ups; rw [List.take_of_length_le (by simp)]; exact List.mem_finRange j
/-- the place of a number, empty if there is none -/
def slotS (s : ByteArray) (i : Int) : ByteArray := if 0 ≤ i ∧ i < (placeN s : Int) then place s i.toNat else ⟨#[]⟩

set_option maxRecDepth 100000 in
set_option maxHeartbeats 2000000 in
theorem nth_in (n : Nat) (hn : 4 ≤ n) (s : ByteArray) (i : Int) (hs : s.size ≤ maxLen) (w : World) (B : Nat) (hB : B < w.heap.size) (hc : w.cell? ⟨B, 0, none⟩ = some (.string s)) :
    CallsIn Fence.wide n Tryz.prog 146 #[.func (.func 143) #[] #[.pointer (some ⟨B, 0, none⟩)], .int .i64 i] w fun e w' =>
      e = .returned (.string (slotS s i)) ∧ Below w.heap.size w w' := by
  have h1 : 1 ≤ n := by omega
  refine callsIn_of_wp_marks Tryz.func146 rfl trivial ?_ rfl
  simp only [Tryz.ntmps146, List.size_toArray, List.length_cons, List.length_nil, Nat.reduceAdd, Nat.reduceSub, Array.replicate_succ, Array.replicate_zero, List.push_toArray, List.append_toArray, List.nil_append, List.cons_append]
  gi_wp2
  have b0 := (Blk.new w 3 #[.int .i64 i]).alloc (.cells #[.string ⟨#[]⟩] 9)
  have b1 := Blk.new (w.alloc (.cells #[.int .i64 i] 3)) 9 #[.string ⟨#[]⟩]
  have hB2 : Below w.heap.size w ((w.alloc (.cells #[.int .i64 i] 3)).alloc (.cells #[.string ⟨#[]⟩] 9)) := ((Below.refl _ w).alloc (Nat.le_refl _) _).alloc (by simp) _
  have hsz : ((w.alloc (.cells #[.int .i64 i] 3)).alloc (.cells #[.string ⟨#[]⟩] 9)).heap.size = w.heap.size + 2 := by simp
  rw [World.size_alloc] at b1
  have cB := (hB2.cell (p := ⟨B, 0, none⟩) hB).trans hc
  generalize (w.alloc (.cells #[.int .i64 i] 3)).alloc (.cells #[.string ⟨#[]⟩] 9) = W0 at *
  refine wpIn_rangeFunc_ownH rfl h1 (gf := 143) (lb := #[.pointer (some ⟨B, 0, none⟩)]) rfl trivial (enters_of Tryz.func143 (by kernel_rfl) rfl)
    (places_stops (n - 1) (by omega) B B (B + 1) s W0 hs (by omega) (by omega) cB)
    (fun h k => Mid.trans h k) (midK_b (by omega)) (Below.refl _ _) (fun _ => rfl)
    (fun pre W => ((Blk W w.heap.size 3 #[.int .i64 i] ∧ Blk W (w.heap.size + 1) 9 #[.string ⟨#[]⟩]) ∧ (∀ j ∈ pre, (j.1 : Int) ≠ i)) ∧ (Below w.heap.size w W ∧ w.heap.size + 2 ≤ W.heap.size))
    (fun c pre W => ((Blk W w.heap.size 3 #[.int .i64 i] ∧ Blk W (w.heap.size + 1) 9 #[.string (slotS s i)]) ∧ c = .ret) ∧ (Below w.heap.size w W ∧ w.heap.size + 2 ≤ W.heap.size))
    (OwnFrom.and (OwnFrom.and (OwnFrom.and (Own.from (blk_own _ _ _) _) (Own.from (blk_own _ _ _) _)) (ownFrom_pure _ _)) (OwnFrom.and (ownFrom_below (Nat.le_refl _) (by omega)) (fun _ _ _ _ hs hg _ => Nat.le_trans hs hg.size)))
    (fun c => OwnFrom.and (OwnFrom.and (OwnFrom.and (Own.from (blk_own _ _ _) _) (Own.from (blk_own _ _ _) _)) (ownFrom_pure _ _)) (OwnFrom.and (ownFrom_below (Nat.le_refl _) (by omega)) (fun _ _ _ _ hs hg _ => Nat.le_trans hs hg.size)))
    ⟨⟨⟨b0, b1⟩, fun j hj => by cases hj⟩, hB2, by omega⟩
    (fun x a' W => a' = { tmps := #[.func (.func 143) #[] #[.pointer (some ⟨B, 0, none⟩)], .int .i64 i, undef, .pointer (some ⟨w.heap.size, 0, none⟩), .pointer (some ⟨w.heap.size + 1, 0, none⟩), .int .i64 (x.1 : Int), .string (place s x.1), .func (.func 143) #[] #[.pointer (some ⟨B, 0, none⟩)], .int .i64 (x.1 : Int), .string (place s x.1), undef, undef, undef, undef, undef], defers := [] })
    (fun x a' _ X Y row hs hg hr => hs)
    ?assign ?body ?done ?stop
  case assign =>
    rintro l pre x W K ⟨⟨⟨bI, bX⟩, hall⟩, hB1, hW2⟩ hK
    gi_wp2
    exact hK _ _ ((KeepsOthers.refl W).from _) (Mid.refl _ _ W) ⟨⟨⟨bI, bX⟩, hall⟩, hB1, hW2⟩ rfl
  case body =>
    rintro l pre x a' W hl ⟨r, hr⟩ ⟨⟨⟨bI, bX⟩, hall⟩, hB1, hW2⟩ rfl hlt
    have cI := bI.cell 0
    have cX := bX.cell 0
    have fX := bX.frozen 0
    by_cases hx : (x.1 : Int) = i
    · have hq : ((x.1 : Int) == i) = true := by simpa using hx
      have hsl : slotS s i = place s x.1 := by
        have := x.2
        unfold slotS; rw [if_pos (by omega)]
        congr 1; omega
      have HX := Lib.hid hsl
      clear hx hsl
      gi_wp2
      exact ⟨(KeepsOthers.setCell _ _ _).from _, ⟨⟨⟨bI.other _ (by simp) _, by rw [HX.out]; exact bX.set 0 (.string (place s x.1))⟩, rfl⟩, hB1.setCell (p := ⟨w.heap.size + 1, 0, none⟩) (by simp) _, by rw [World.size_setCell]; exact hW2⟩⟩
    · have hq : ((x.1 : Int) == i) = false := by simpa using hx
      gi_wp2
      exact ⟨(KeepsOthers.refl W).from _, Mid.refl _ _ _, ⟨⟨⟨bI, bX⟩, fun j hj => by
        rcases List.mem_append.1 hj with h | h
        · exact hall j h
        · rw [List.mem_singleton.1 h]; exact hx⟩, hB1, hW2⟩⟩
  case done =>
    rintro D zs W hD rfl ⟨⟨⟨bI, bX⟩, hall⟩, hB1, hW2⟩ hK
    have hsl : slotS s i = ⟨#[]⟩ := by
      unfold slotS
      rw [if_neg]
      rintro ⟨g1, g2⟩
      exact hall ⟨i.toNat, by omega⟩ (mem_ups _ _) (by show ((i.toNat : Nat) : Int) = i; omega)
    have HSL := Lib.hid hsl
    clear hsl
    have cX := bX.cell 0
    have fX := bX.frozen 0
    gi_wp2
    have bX2 := bX.set 0 (.string ⟨#[]⟩)
    have hK' := (KeepsOthers.setCell W ⟨w.heap.size + 1, 0, none⟩ (.string ⟨#[]⟩)).same D _ hK rfl
    have bX3 := blk_own (w.heap.size + 1) 9 (fun (_ : Unit) => #[.string ⟨#[]⟩]) () _ _ _ bX2 (grownBy_putObj' _ D (.deferred none)) (fun r e => by cases e; exact ⟨_, hK', rfl⟩)
    have hc5 := bX3.cell 0
    refine ⟨by simp, .inl ⟨_, _, rfl, run_takeDeferred hK', ?_⟩⟩
    refine ⟨.string ⟨#[]⟩, ?_, by rw [HSL.out], ?_⟩
    · simp [results, Tryz.f146, go_sem, hc5]
    · exact (hB1.setCell (p := ⟨w.heap.size + 1, 0, none⟩) (by simp) _).trans (belowK_b (w := w) (Nat.le_refl _) _ D _ _ (by omega) hK' rfl rfl)
  case stop =>
    rintro D c pre W hD hSp ⟨⟨⟨bI, bX⟩, rfl⟩, hB1, hW2⟩ hK
    have cX := bX.cell 0
    gi_wp2
    have bX3 := blk_own (w.heap.size + 1) 9 (fun (_ : Unit) => #[.string (slotS s i)]) () _ _ _ bX (grownBy_putObj' _ D (.deferred none)) (fun r e => by cases e; exact ⟨_, hK, rfl⟩)
    have hc5 := bX3.cell 0
    refine ⟨by simp, .inl ⟨_, _, rfl, run_takeDeferred hK, ?_⟩⟩
    refine ⟨.string (slotS s i), ?_, rfl, ?_⟩
    · simp [results, Tryz.f146, go_sem, hc5]
    · exact hB1.trans (belowK_b (w := w) (Nat.le_refl _) W D _ _ (by omega) hK rfl rfl)

theorem Slot_any (s : ByteArray) (i : Int) (hs : s.size ≤ maxLen) (w : World) :
    Calls Tryz.prog 136 #[.string s, .int .i64 i] w fun e w' => e = .returned (.string (slotS s i)) ∧ Below w.heap.size w w' := by
  have hp : ∀ w, Calls Tryz.prog 128 #[.string s] w fun e w' => e = .returned (.func (.func 143) #[] #[.pointer (some ⟨w.heap.size, 0, none⟩)]) ∧ w' = w.alloc (.cells #[.string s] 9) := fun w => callsIn_wide.1 (places_in 5 s w)
  have hn := fun (w : World) (B : Nat) hB hc => callsIn_wide.1 (nth_in 5 (by omega) s i hs w B hB hc)
  go_enter Tryz.func136, Tryz.ntmps136
  go_wp2_with (with_reducible refine (hp _).mono ?_; rintro e w1 ⟨rfl, rfl⟩)
  refine (hn _ w.heap.size (by simp) (by rw [(Blk.new w 9 #[.string s]).cell 0]; rfl)).mono ?_
  rintro e w2 ⟨rfl, b2⟩
  have B2 := bthen ((Below.refl _ w).alloc (Nat.le_refl _) _) b2
  go_wp2
  go_ret
  exact ⟨rfl, B2⟩
end Go.Proofs.YtebkeocpojlepaaGreatDoor

/- bank.state, State, Record, Generation. -/
namespace Go.Proofs.YtebkeocpojlepaaGreatDoor
open Go.RowKit
set_option linter.unusedVariables false
set_option linter.unusedSimpArgs false

/-- the state of a place that holds these bytes -/
def stateP (i : Int) (p : ByteArray) : Int := if decE p = 5 then 0 else if decE p ≠ 0 ∨ (i = 0 ∧ decK p ≠ 1) ∨ (i ≠ 0 ∧ decK p = 1) then 1 else 2
def stateS (s : ByteArray) (i : Int) : Int := stateP i (slotS s i)

theorem slotS_size (s : ByteArray) (i : Int) : (slotS s i).size ≤ 24 := by
  unfold slotS place
  split
  · rw [ByteArray.size_extract]; omega
  · exact Nat.zero_le _

theorem state_any (i : Int) (p : ByteArray) (hp : p.size ≤ maxLen) (w : World) :
    Calls Tryz.prog 129 #[.int .i64 i, .string p] w fun e w' => e = .returned (.int .i64 (stateP i p)) ∧ Below w.heap.size w w' := by
  have h1 := Decode_any p hp
  unfold decV at h1
  have hst : stateP i p = if decE p = 5 then 0 else if decE p ≠ 0 ∨ (i = 0 ∧ decK p ≠ 1) ∨ (i ≠ 0 ∧ decK p = 1) then 1 else 2 := rfl
  generalize decE p = E at *
  generalize decK p = K at *
  generalize decN p = N at *
  generalize decD p = D at *
  generalize stateP i p = R at *
  by_cases e5 : E = 5
  · subst e5
    rw [if_pos rfl] at hst
    subst hst
    go_enter Tryz.func129, Tryz.ntmps129
    go_wp2_with (with_reducible refine (h1 _).mono ?_; rintro e w1 ⟨rfl, b1⟩)
    go_ret
    exact ⟨rfl, b1.alloc b1.size _⟩
  · rw [if_neg e5] at hst
    have n5 : (E == 5) = false := by simpa using e5
    by_cases e0 : E = 0
    · subst e0
      by_cases i0 : i = 0
      · subst i0
        by_cases k1 : K = 1
        · subst k1
          rw [if_neg (by simp)] at hst
          subst hst
          clear n5 e5
          go_enter Tryz.func129, Tryz.ntmps129
          go_wp2_with (with_reducible refine (h1 _).mono ?_; rintro e w1 ⟨rfl, b1⟩)
          go_ret
          exact ⟨rfl, b1.alloc b1.size _⟩
        · rw [if_pos (by simp [k1])] at hst
          subst hst
          have nk : ((K : Int) != 1) = true := by simp; omega
          clear n5 e5 k1
          go_enter Tryz.func129, Tryz.ntmps129
          go_wp2_with (with_reducible refine (h1 _).mono ?_; rintro e w1 ⟨rfl, b1⟩)
          go_ret
          exact ⟨rfl, b1.alloc b1.size _⟩
      · have ni : (i == 0) = false := by simpa using i0
        have ni2 : (i != 0) = true := by simpa using i0
        by_cases k1 : K = 1
        · subst k1
          rw [if_pos (by simp [i0])] at hst
          subst hst
          clear n5 e5 i0
          go_enter Tryz.func129, Tryz.ntmps129
          go_wp2_with (with_reducible refine (h1 _).mono ?_; rintro e w1 ⟨rfl, b1⟩)
          go_ret
          exact ⟨rfl, b1.alloc b1.size _⟩
        · rw [if_neg (by simp [i0, k1])] at hst
          subst hst
          have nk : ((K : Int) == 1) = false := by simp; omega
          clear n5 e5 k1 i0
          go_enter Tryz.func129, Tryz.ntmps129
          go_wp2_with (with_reducible refine (h1 _).mono ?_; rintro e w1 ⟨rfl, b1⟩)
          go_ret
          exact ⟨rfl, b1.alloc b1.size _⟩
    · rw [if_pos (.inl e0)] at hst
      subst hst
      have n0 : (E != 0) = true := by simpa using e0
      clear e0 e5
      go_enter Tryz.func129, Tryz.ntmps129
      go_wp2_with (with_reducible refine (h1 _).mono ?_; rintro e w1 ⟨rfl, b1⟩)
      go_ret
      exact ⟨rfl, b1.alloc b1.size _⟩

theorem State_any (s : ByteArray) (i : Int) (hs : s.size ≤ maxLen) (w : World) :
    Calls Tryz.prog 116 #[.string s, .int .i64 i] w fun e w' => e = .returned (.int .i64 (stateS s i)) ∧ Below w.heap.size w w' := by
  have h1 := Slot_any s i hs
  have h2 := state_any i (slotS s i) (by have := slotS_size s i; unfold maxLen; omega)
  unfold stateS
  generalize slotS s i = X at *
  go_enter Tryz.func116, Tryz.ntmps116
  go_wp2_with (with_reducible refine (h1 _).mono ?_)
  rintro e w1 ⟨rfl, b1⟩
  go_wp2_with (with_reducible refine (h2 _).mono ?_)
  rintro e w2 ⟨rfl, b2⟩
  go_wp2
  go_ret
  exact ⟨rfl, bthen b1 b2⟩

theorem Record_any (s : ByteArray) (i : Int) (hs : s.size ≤ maxLen) (w : World) :
    Calls Tryz.prog 122 #[.string s, .int .i64 i] w fun e w' => e = .returned (decV (slotS s i)) ∧ Below w.heap.size w w' := by
  have h1 := Slot_any s i hs
  have h2 := Decode_any (slotS s i) (by have := slotS_size s i; unfold maxLen; omega)
  unfold decV at h2 ⊢
  generalize slotS s i = X at *
  generalize decE X = E at *
  generalize decK X = K at *
  generalize decN X = N at *
  generalize decD X = D at *
  have k0 := Blk.new w 166 #[.int .i64 0, .int .u64 0, .int .u64 0]
  have B0 : Below w.heap.size w (w.alloc (.cells #[.int .i64 0, .int .u64 0, .int .u64 0] 166)) := (Below.refl _ w).alloc (Nat.le_refl _) _
  go_enter Tryz.func122, Tryz.ntmps122
  go_wp2_with (with_reducible refine (h1 _).mono ?_)
  rintro e w1 ⟨rfl, b1⟩
  have k1 := k0.below b1 k0.lt
  have B1 := bthen B0 b1
  go_wp2_with (with_reducible refine (h2 _).mono ?_)
  rintro e w2 ⟨rfl, b2⟩
  have k2 := k1.below b2 k1.lt
  have B2 := bthen B1 b2
  have r0 := k2.cell 0
  have r1 := k2.cell 1
  have r2 := k2.cell 2
  have f0 := k2.frozen 0
  have f1 := k2.frozen 1
  have f2 := k2.frozen 2
  go_wp2
  have g := dec_sets k2 (.int .i64 (K : Int)) (.int .u64 (N : Int)) (.int .u64 (D : Int))
  have B3 := dec_bel B2 (.int .i64 (K : Int)) (.int .u64 (N : Int)) (.int .u64 (D : Int))
  generalize World.setCell (World.setCell (World.setCell w2 _ _) _ _) _ _ = W3 at *
  have s0 := g.cell 0
  have s1 := g.cell 1
  have s2 := g.cell 2
  simp at s0 s1 s2
  exact bodyPost_ret (v := .tuple #[recV (K : Int) N D, .int .i64 E]) (by simp [results, Tryz.results122, go_sem, s0, s1, s2]) rfl ⟨rfl, B3⟩

def genN (s : ByteArray) : Nat := if stateS s 0 = 2 then decN (slotS s 0) else 0
def genE (s : ByteArray) : Int := if stateS s 0 = 2 then 0 else 10
theorem Generation_any (s : ByteArray) (hs : s.size ≤ maxLen) (w : World) :
    Calls Tryz.prog 97 #[.string s] w fun e w' => e = .returned (.tuple #[.int .u64 (genN s : Int), .int .i64 (genE s)]) ∧ Below w.heap.size w w' := by
  have h1 := State_any s 0 hs
  have h2 := Record_any s 0 hs
  unfold decV at h2
  by_cases h : stateS s 0 = 2
  · have hE : decE (slotS s 0) = 0 := by
      unfold stateS stateP at h
      split at h
      · cases h
      · split at h
        · cases h
        · rename_i g; exact Classical.not_not.1 (fun q => g (.inl q))
    rw [show genN s = decN (slotS s 0) from if_pos h, show genE s = 0 from if_pos h]
    rw [h] at h1
    rw [hE] at h2
    generalize slotS s 0 = X at *
    generalize decK X = K at *
    generalize decN X = N at *
    generalize decD X = D at *
    clear h hE
    go_enter Tryz.func97, Tryz.ntmps97
    go_wp2_with (with_reducible refine (h1 _).mono ?_)
    rintro e w1 ⟨rfl, b1⟩
    go_wp2_with (with_reducible refine (h2 _).mono ?_)
    rintro e w2 ⟨rfl, b2⟩
    go_wp2
    go_ret2
    exact ⟨rfl, (bthen b1 b2).alloc (bthen b1 b2).size _⟩
  · rw [show genN s = 0 from if_neg h, show genE s = 10 from if_neg h]
    have n2 : (stateS s 0 != 2) = true := by simpa using h
    generalize stateS s 0 = S at *
    clear h
    go_enter Tryz.func97, Tryz.ntmps97
    go_wp2_with (with_reducible refine (h1 _).mono ?_)
    rintro e w1 ⟨rfl, b1⟩
    go_wp2
    go_ret2
    exact ⟨rfl, b1⟩
end Go.Proofs.YtebkeocpojlepaaGreatDoor

/- bank.States: the states of a bank's slots. -/
namespace Go.Proofs.YtebkeocpojlepaaGreatDoor
open Go.RowKit Go.Shelf
attribute [local go_sem] Oper.semAt_some
set_option linter.unusedVariables false

/-- whole numbers as cells; a slice value that owns them -/
def icells (l : List Int) : List Value := l.map fun n => Value.int .i64 n
def OwnsI (w : World) (base : Nat) (v : Value) (l : List Int) : Prop := w.ownsRow base 3 1 v l.length (icells l)
theorem infoI : (Tryz.prog.info? 3).map (fun i => (i.zero, i.size, i.bytes)) = some (some (.int .i64 0), 1, 8) := by kernel_rfl

/-- the states of the places so far, but for the header's -/
def statesP (s : ByteArray) (pre : List (Fin (placeN s))) : List Int := (pre.filter (fun j => decide (0 < j.1))).map (fun j => stateP (j.1 : Int) (place s j.1))
def statesL (s : ByteArray) : List Int := statesP s (ups (placeN s) (placeN s))

theorem statesP_snoc (s : ByteArray) (pre : List (Fin (placeN s))) (x : Fin (placeN s)) (h : 0 < x.1) : statesP s (pre ++ [x]) = statesP s pre ++ [stateP (x.1 : Int) (place s x.1)] := by
  unfold statesP; rw [List.filter_append, List.map_append]; simp [h]
theorem statesP_zero (s : ByteArray) (pre : List (Fin (placeN s))) (x : Fin (placeN s)) (h : x.1 = 0) : statesP s (pre ++ [x]) = statesP s pre := by
  unfold statesP; rw [List.filter_append, List.map_append]; simp [h]
theorem statesP_len (s : ByteArray) (pre : List (Fin (placeN s))) : (statesP s pre).length ≤ pre.length := by
  unfold statesP; rw [List.length_map]; exact List.length_filter_le _ _

theorem icells_snoc (l : List Int) (b : Int) : icells (l ++ [b]) = icells l ++ [Value.int .i64 b] := by simp [icells]
theorem OwnsI.base_le {w : World} {base : Nat} {v : Value} {l : List Int} (h : OwnsI w base v l) : ∀ k, v.ownBlock = some k → base ≤ k := by
  intro k hk
  obtain ⟨_, h2⟩ := h
  rcases h2 with ⟨rfl, _⟩ | ⟨g, cap, cur, rfl, hg, _⟩
  · simp [Value.ownBlock] at hk
  · simp [Value.ownBlock] at hk; omega
theorem OwnsI.of_block {w w' : World} {base : Nat} {v : Value} {l : List Int} (h : OwnsI w base v l) (hb : ∀ (g : Nat) (cur : Array Value), base ≤ g → w.heap[g]? = some (.cells cur 3 (0, 0)) → w'.heap[g]? = w.heap[g]?) : OwnsI w' base v l := by
  obtain ⟨h1, h2⟩ := h
  refine ⟨h1, ?_⟩
  rcases h2 with h2 | ⟨g, cap, cur, hv, hg, hh, r⟩
  · exact .inl h2
  · exact .inr ⟨g, cap, cur, hv, hg, by rw [hb g cur hg hh]; exact hh, r⟩
theorem OwnsI.keeps {w w' : World} {base : Nat} {v : Value} {l : List Int} {row : Option Nat} (h : OwnsI w base v l) (hg : w.grownBy w' row) (hr : ∀ r, row = some r → ∃ o : Obj, w.heap[r]? = some o ∧ o.isCells = false) : OwnsI w' base v l :=
  h.of_block fun g cur _ hh => hg.block g (Array.getElem?_eq_some_iff.1 hh).1 (fun e => by
    obtain ⟨o, ho, hc⟩ := hr g e.symm
    rw [hh] at ho
    cases ho
    simp [Obj.isCells] at hc)
theorem OwnsI.below {w w' : World} {base : Nat} {v : Value} {l : List Int} (h : OwnsI w base v l) (hb : Below w.heap.size w w') : OwnsI w' base v l :=
  h.of_block fun g cur _ hh => hb.block g (Array.getElem?_eq_some_iff.1 hh).1
theorem OwnsI.base {w : World} {b c : Nat} {v : Value} {l : List Int} (h : OwnsI w b v l) (hc : c ≤ b) : OwnsI w c v l := by
  obtain ⟨h1, h2⟩ := h
  refine ⟨h1, ?_⟩
  rcases h2 with h2 | ⟨g, cap, cur, hv, hg, r⟩
  · exact .inl h2
  · exact .inr ⟨g, cap, cur, hv, by omega, r⟩
theorem OwnsI.slice {w : World} {base : Nat} {v : Value} {l : List Int} (h : OwnsI w base v l) : ∃ p n c, v = .slice p n c := by
  obtain ⟨_, h2⟩ := h
  rcases h2 with ⟨rfl, _⟩ | ⟨g, cap, cur, rfl, _⟩ <;> exact ⟨_, _, _, rfl⟩
theorem OwnsI.other {w : World} {base : Nat} {v : Value} {l : List Int} (h : OwnsI w base v l) (p : Addr) (hp : p.block < base) (u : Value) : OwnsI (w.setCell p u) base v l :=
  h.of_block fun g cur hg _ => Below.heap_setCell w p u g (by omega)

theorem step_appendIn {F : Fence} {n : Nat} {ops : Array Oper} {o : Oper} {a : Act} {w : World} {K : Act → World → Prop} {Q : Exit → Act → World → Prop} {E : Prop}
    (hg : o.guard = none) (s x : Operand) (hop : o.op = Op.call { callee := Callee.builtin Builtin.append, args := #[s, x], argTypes := #[137, 137] })
    {base : Nat} {v : Value} {l : List Int} {b : Int} {g : Nat} (hs : a.eval s = v) (hx : a.eval x = .slice (some ⟨g, 0, none⟩) 1 1)
    (hown : OwnsI w base v l) (hc : w.cell? ⟨g, 0, none⟩ = some (.int .i64 b)) (hlen : l.length ≤ 1000) (hbase : base ≤ w.heap.size)
    (hK : ∀ v' w', OwnsI w' base v' (l ++ [b]) → KeepsOthers w w' → Below base w w' → K (a.put o.dst v') w') :
    if Region.wanted o (yielded ops a.tmps) = true then Oper.wpIn F n Tryz.prog o a w K Q else E := by
  have hw : Region.wanted o (yielded ops a.tmps) = true := by simp [Region.wanted, hg]
  rw [if_pos hw]
  obtain ⟨i0, hi, hz0, hz1, hz2⟩ := info_parts infoI
  obtain ⟨v', w', hrun, r1, r2, r3⟩ := run_append_own (P := Tryz.prog) w base 137 o.type 3 i0 (.int .i64 0) 1 8 Tryz.underlying137 hi hz0 hz1 hz2 rfl (by decide) v l.length (icells l) hown ⟨g, 0, none⟩ 1 1 [.int .i64 b] rfl
    (by intro j u hj; match j, hj with
        | 0, hj => simp at hj; subst hj; simpa [Addr.add] using hc
        | j + 1, hj => simp at hj) (by intro u hu; simp at hu; subst hu; rfl) (by unfold maxLen; omega) (by omega) hbase
  unfold Oper.wpIn
  refine ⟨?_, ?_⟩
  · simp [Oper.about, hop, resolve, Target.leads, Sem.run_pure]
  · rw [Oper.semAt_plain F _ _ (by rw [hop]; intro c hc'; cases hc')]
    simp [execOp, hop, resolve, invoke, builtin, hs, hx, hrun, Result.andThen]
    refine hK v' w' (by unfold OwnsI; rw [icells_snoc]; simpa using r1) (KeepsOthers.of_grownBy r2 ?_) ((Below.refl base w).grown r2 hbase (fun k e => OwnsI.base_le hown k e))
    intro j o' e ho'
    obtain ⟨_, h2⟩ := hown
    rcases h2 with ⟨rfl, _⟩ | ⟨g', cap, cur, rfl, _, hh, _⟩
    · simp [Value.ownBlock] at e
    · simp [Value.ownBlock] at e
      subst e
      rw [hh] at ho'
      cases ho'; rfl

set_option maxRecDepth 100000 in
set_option maxHeartbeats 8000000 in
theorem States_in (n : Nat) (hn : 4 ≤ n) (s : ByteArray) (hs : s.size ≤ maxLen) (w : World) :
    CallsIn Fence.wide n Tryz.prog 113 #[.string s] w fun e w' => ∃ v, e = .returned v ∧ OwnsI w' w.heap.size v (statesL s) ∧ Below w.heap.size w w' := by
  have h1 : 1 ≤ n := by omega
  refine callsIn_of_wp_marks Tryz.func113 rfl trivial ?_ rfl
  simp only [Tryz.ntmps113, List.size_toArray, List.length_cons, List.length_nil, Nat.reduceAdd, Nat.reduceSub, Array.replicate_succ, Array.replicate_zero, List.push_toArray, List.append_toArray, List.nil_append, List.cons_append]
  gi_wp2_with (refine ⟨trivial, ?_⟩; refine (places_in (n - 1) s _).mono ?_; rintro e w' ⟨rfl, rfl⟩)
  have b0 := (Blk.new w 137 #[.slice none 0 0]).alloc (.cells #[.string s] 9)
  have b1 := Blk.new (w.alloc (.cells #[.slice none 0 0] 137)) 9 #[.string s]
  have hB2 : Below w.heap.size w ((w.alloc (.cells #[.slice none 0 0] 137)).alloc (.cells #[.string s] 9)) := ((Below.refl _ w).alloc (Nat.le_refl _) _).alloc (by simp) _
  have hsz : ((w.alloc (.cells #[.slice none 0 0] 137)).alloc (.cells #[.string s] 9)).heap.size = w.heap.size + 2 := by simp
  rw [World.size_alloc] at b1
  generalize (w.alloc (.cells #[.slice none 0 0] 137)).alloc (.cells #[.string s] 9) = W0 at *
  refine wpIn_rangeFunc_ownH rfl h1 (gf := 143) (lb := #[.pointer (some ⟨w.heap.size + 1, 0, none⟩)]) rfl trivial (enters_of Tryz.func143 (by kernel_rfl) rfl)
    (places_stops (n - 1) (by omega) (w.heap.size + 1) (w.heap.size + 1) (w.heap.size + 2) s W0 hs (by omega) (by omega) (b1.cell 0))
    (fun h k => Mid.trans h k) (midK_b (by omega)) (Below.refl _ _) (fun _ => rfl)
    (fun pre W => (∃ v, Blk W w.heap.size 137 #[v] ∧ OwnsI W (w.heap.size + 2) v (statesP s pre)) ∧ (Below w.heap.size w W ∧ w.heap.size + 2 ≤ W.heap.size))
    (fun _ _ _ => False)
    ?hI
    (fun _ _ _ _ _ hs _ _ => hs)
    ⟨⟨_, b0, World.ownsRow_nil _ _ _ 1⟩, hB2, by omega⟩
    (fun x a' W => a' = { tmps := #[.string s, undef, .pointer (some ⟨w.heap.size, 0, none⟩), .int .i64 (x.1 : Int), .string (place s x.1), .string s, .func (.func 143) #[] #[.pointer (some ⟨w.heap.size + 1, 0, none⟩)], .int .i64 (x.1 : Int), .string (place s x.1), undef, undef, undef, undef, undef, undef, undef, undef, undef], defers := [] })
    (fun x a' _ X Y row hs hg hr => hs)
    ?assign ?body ?done ?stop
  case hI =>
    refine OwnFrom.and ?_ (OwnFrom.and (ownFrom_below (Nat.le_refl _) (by omega)) (fun _ _ _ _ hs hg _ => Nat.le_trans hs hg.size))
    intro pre A B row hs hg hr
    obtain ⟨v, h1, h2⟩ := hs
    exact ⟨v, blk_own w.heap.size 137 (fun (_ : Unit) => #[v]) () A B row h1 hg (fun r e => (hr r e).2), h2.keeps hg (fun r e => (hr r e).2)⟩
  case assign =>
    rintro l pre x W K ⟨hV, hB1, hW2⟩ hK
    gi_wp2
    exact hK _ _ ((KeepsOthers.refl W).from _) (Mid.refl _ _ W) ⟨hV, hB1, hW2⟩ rfl
  case body =>
    rintro l pre x a' W hl ⟨r, hr⟩ ⟨⟨v, bV, hown⟩, hB1, hW2⟩ rfl hlt
    have cV := bV.cell 0
    have fV := bV.frozen 0
    by_cases hx : 0 < x.1
    · have h2 := state_any (x.1 : Int) (place s x.1) (by unfold place maxLen; rw [ByteArray.size_extract]; omega)
      obtain ⟨R, hR⟩ : ∃ R, R = stateP (x.1 : Int) (place s x.1) := ⟨_, rfl⟩
      rw [← hR] at h2
      have hll : (statesP s pre).length ≤ 20 := by
        have := statesP_len s pre
        by_cases h0 : 0 < placeN s
        · have := (placeN_pos h0).2.2; omega
        · omega
      have HR := Lib.hid hR
      clear hR
      have lV := bV.lt
      gi_wp2
      refine wpIn_region_any (by kernel_rfl) ?_
      try (change wpAnyIn _ _ _ _ _ _ _ _ _ (World.drew _))
      refine wpAnyIn_ready (rs := [0, 1, 2]) (by kernel_rfl) (by simp) ?_
      refine AllReadyIn.cons rfl (fun K hK => ?_) ?_
      ·
        go_simp
        refine hK _ _ ?_
        clear hK K
        refine wpAnyIn_ready (rs := [1, 2]) (by kernel_rfl) (by simp) ?_
        refine AllReadyIn.cons rfl (fun K hK => ?_) ?_
        ·
          go_simp
          refine hK _ _ ?_
          clear hK K
          refine wpAnyIn_ready (rs := [2]) (by kernel_rfl) (by simp) ?_
          refine AllReadyIn.cons rfl (fun K hK => ?_) ?_
          ·
            go_simp
            refine hK _ _ ?_
            clear hK K
            refine wpAnyIn_ready (rs := [3]) (by kernel_rfl) (by simp) ?_
            refine AllReadyIn.cons rfl (fun K hK => ?_) ?_
            ·
              go_simp
              gi_wp2_with (refine ⟨trivial, (fun h => by cases h), ?_⟩; refine (CallsIn.inRound l (callsIn_wide.2 (h2 _))).mono ?_; rintro e w5 ⟨rfl, b5⟩)
              (try (refine hK _ _ ?_; clear hK K))
              have bV5 : Blk w5 w.heap.size 137 #[v] := bV.drew.below b5 lV
              have c5 : w5.cell? ⟨w.heap.size, 0, none⟩ = some v := bV5.cell 0
              have c5a : ∀ o, (w5.alloc o).cell? ⟨w.heap.size, 0, none⟩ = some v := fun o => (bV5.alloc o).cell 0
              have own5 : OwnsI w5 (w.heap.size + 2) v (statesP s pre) := OwnsI.below (w := W.drew) hown b5
              have hz5 : W.heap.size ≤ w5.heap.size := b5.size
              refine wpAnyIn_ready (rs := [4]) (by kernel_rfl) (by simp) ?_
              refine AllReadyIn.cons rfl (fun K hK => ?_) ?_
              ·
                go_simp
                refine hK _ _ ?_
                clear hK K
                refine wpAnyIn_ready (rs := [5]) (by kernel_rfl) (by simp) ?_
                refine AllReadyIn.cons rfl (fun K hK => ?_) ?_
                ·
                  refine step_appendIn (b := R) (by rfl) _ _ (by rfl) (by rfl) (by rfl) (own5.below ((Below.refl _ w5).alloc (Nat.le_refl _) _)) (by simp) (by omega) (by simp; omega) ?_
                  intro v7 w7 own7 ko7 b7
                  obtain ⟨p7, m7, q7, rfl⟩ := own7.slice
                  refine hK _ _ ?_
                  clear hK K
                  have bV7 : Blk w7 w.heap.size 137 #[v] := (bV5.alloc (.cells #[.int .i64 R] 3)).below b7 (by omega)
                  have c7 : w7.cell? ⟨w.heap.size, 0, none⟩ = some v := bV7.cell 0
                  have f7 : w7.frozen? ⟨w.heap.size, 0, none⟩ = false := bV7.frozen 0
                  have hz7 : w5.heap.size + 1 ≤ w7.heap.size := by have := b7.size; simpa using this
                  refine wpAnyIn_ready (rs := [6]) (by kernel_rfl) (by simp) ?_
                  refine AllReadyIn.cons rfl (fun K hK => ?_) ?_
                  ·
                    go_simp
                    refine hK _ _ ?_
                    clear hK K
                    refine wpAnyIn_done (by kernel_rfl) ?_ _
                    gi_wp2
                    refine ⟨((((KeepsOthers.drew W).trans (KeepsOthers.of_grownBy (grown_of_below b5) (fun _ _ e => by cases e))).trans (KeepsOthers.alloc w5 (.cells #[.int .i64 R] 3))).trans (ko7.trans (KeepsOthers.setCell w7 ⟨w.heap.size, 0, none⟩ (.slice p7 m7 q7)))).from _, ?_, ⟨.slice p7 m7 q7, bV7.set 0 (.slice p7 m7 q7), ?_⟩, ?_, ?_⟩
                    · exact Mid.setCell ((((Mid.of_below (Below.refl _ W).drew (by omega)).trans (Mid.of_below b5 (by show _ ≤ W.heap.size; omega))).trans (Mid.of_below ((Below.refl _ w5).alloc (Nat.le_refl _) _) (by omega))).trans (Mid.of_below b7 (Nat.le_refl _))) _ (by simp) _
                    · rw [statesP_snoc s pre x hx, ← HR.out]; exact own7.other _ (by show w.heap.size < _; omega) _
                    · exact (((hB1.drew.trans (b5.mono hB1.size)).alloc (by omega) _).trans (b7.mono (by omega))).setCell (p := ⟨w.heap.size, 0, none⟩) (Nat.le_refl _) _
                    · rw [World.size_setCell]; omega
                  exact AllReadyIn.nil
                exact AllReadyIn.nil
              exact AllReadyIn.nil
            exact AllReadyIn.nil
          exact AllReadyIn.nil
        refine AllReadyIn.cons rfl (fun K hK => ?_) ?_
        ·
          go_simp
          refine hK _ _ ?_
          clear hK K
          refine wpAnyIn_ready (rs := [1]) (by kernel_rfl) (by simp) ?_
          refine AllReadyIn.cons rfl (fun K hK => ?_) ?_
          ·
            go_simp
            refine hK _ _ ?_
            clear hK K
            refine wpAnyIn_ready (rs := [3]) (by kernel_rfl) (by simp) ?_
            refine AllReadyIn.cons rfl (fun K hK => ?_) ?_
            ·
              go_simp
              gi_wp2_with (refine ⟨trivial, (fun h => by cases h), ?_⟩; refine (CallsIn.inRound l (callsIn_wide.2 (h2 _))).mono ?_; rintro e w5 ⟨rfl, b5⟩)
              (try (refine hK _ _ ?_; clear hK K))
              have bV5 : Blk w5 w.heap.size 137 #[v] := bV.drew.below b5 lV
              have c5 : w5.cell? ⟨w.heap.size, 0, none⟩ = some v := bV5.cell 0
              have c5a : ∀ o, (w5.alloc o).cell? ⟨w.heap.size, 0, none⟩ = some v := fun o => (bV5.alloc o).cell 0
              have own5 : OwnsI w5 (w.heap.size + 2) v (statesP s pre) := OwnsI.below (w := W.drew) hown b5
              have hz5 : W.heap.size ≤ w5.heap.size := b5.size
              refine wpAnyIn_ready (rs := [4]) (by kernel_rfl) (by simp) ?_
              refine AllReadyIn.cons rfl (fun K hK => ?_) ?_
              ·
                go_simp
                refine hK _ _ ?_
                clear hK K
                refine wpAnyIn_ready (rs := [5]) (by kernel_rfl) (by simp) ?_
                refine AllReadyIn.cons rfl (fun K hK => ?_) ?_
                ·
                  refine step_appendIn (b := R) (by rfl) _ _ (by rfl) (by rfl) (by rfl) (own5.below ((Below.refl _ w5).alloc (Nat.le_refl _) _)) (by simp) (by omega) (by simp; omega) ?_
                  intro v7 w7 own7 ko7 b7
                  obtain ⟨p7, m7, q7, rfl⟩ := own7.slice
                  refine hK _ _ ?_
                  clear hK K
                  have bV7 : Blk w7 w.heap.size 137 #[v] := (bV5.alloc (.cells #[.int .i64 R] 3)).below b7 (by omega)
                  have c7 : w7.cell? ⟨w.heap.size, 0, none⟩ = some v := bV7.cell 0
                  have f7 : w7.frozen? ⟨w.heap.size, 0, none⟩ = false := bV7.frozen 0
                  have hz7 : w5.heap.size + 1 ≤ w7.heap.size := by have := b7.size; simpa using this
                  refine wpAnyIn_ready (rs := [6]) (by kernel_rfl) (by simp) ?_
                  refine AllReadyIn.cons rfl (fun K hK => ?_) ?_
                  ·
                    go_simp
                    refine hK _ _ ?_
                    clear hK K
                    refine wpAnyIn_done (by kernel_rfl) ?_ _
                    gi_wp2
                    refine ⟨((((KeepsOthers.drew W).trans (KeepsOthers.of_grownBy (grown_of_below b5) (fun _ _ e => by cases e))).trans (KeepsOthers.alloc w5 (.cells #[.int .i64 R] 3))).trans (ko7.trans (KeepsOthers.setCell w7 ⟨w.heap.size, 0, none⟩ (.slice p7 m7 q7)))).from _, ?_, ⟨.slice p7 m7 q7, bV7.set 0 (.slice p7 m7 q7), ?_⟩, ?_, ?_⟩
                    · exact Mid.setCell ((((Mid.of_below (Below.refl _ W).drew (by omega)).trans (Mid.of_below b5 (by show _ ≤ W.heap.size; omega))).trans (Mid.of_below ((Below.refl _ w5).alloc (Nat.le_refl _) _) (by omega))).trans (Mid.of_below b7 (Nat.le_refl _))) _ (by simp) _
                    · rw [statesP_snoc s pre x hx, ← HR.out]; exact own7.other _ (by show w.heap.size < _; omega) _
                    · exact (((hB1.drew.trans (b5.mono hB1.size)).alloc (by omega) _).trans (b7.mono (by omega))).setCell (p := ⟨w.heap.size, 0, none⟩) (Nat.le_refl _) _
                    · rw [World.size_setCell]; omega
                  exact AllReadyIn.nil
                exact AllReadyIn.nil
              exact AllReadyIn.nil
            exact AllReadyIn.nil
          exact AllReadyIn.nil
        exact AllReadyIn.nil
      refine AllReadyIn.cons rfl (fun K hK => ?_) ?_
      ·
        go_simp
        refine hK _ _ ?_
        clear hK K
        refine wpAnyIn_ready (rs := [0, 2]) (by kernel_rfl) (by simp) ?_
        refine AllReadyIn.cons rfl (fun K hK => ?_) ?_
        ·
          go_simp
          refine hK _ _ ?_
          clear hK K
          refine wpAnyIn_ready (rs := [2]) (by kernel_rfl) (by simp) ?_
          refine AllReadyIn.cons rfl (fun K hK => ?_) ?_
          ·
            go_simp
            refine hK _ _ ?_
            clear hK K
            refine wpAnyIn_ready (rs := [3]) (by kernel_rfl) (by simp) ?_
            refine AllReadyIn.cons rfl (fun K hK => ?_) ?_
            ·
              go_simp
              gi_wp2_with (refine ⟨trivial, (fun h => by cases h), ?_⟩; refine (CallsIn.inRound l (callsIn_wide.2 (h2 _))).mono ?_; rintro e w5 ⟨rfl, b5⟩)
              (try (refine hK _ _ ?_; clear hK K))
              have bV5 : Blk w5 w.heap.size 137 #[v] := bV.drew.below b5 lV
              have c5 : w5.cell? ⟨w.heap.size, 0, none⟩ = some v := bV5.cell 0
              have c5a : ∀ o, (w5.alloc o).cell? ⟨w.heap.size, 0, none⟩ = some v := fun o => (bV5.alloc o).cell 0
              have own5 : OwnsI w5 (w.heap.size + 2) v (statesP s pre) := OwnsI.below (w := W.drew) hown b5
              have hz5 : W.heap.size ≤ w5.heap.size := b5.size
              refine wpAnyIn_ready (rs := [4]) (by kernel_rfl) (by simp) ?_
              refine AllReadyIn.cons rfl (fun K hK => ?_) ?_
              ·
                go_simp
                refine hK _ _ ?_
                clear hK K
                refine wpAnyIn_ready (rs := [5]) (by kernel_rfl) (by simp) ?_
                refine AllReadyIn.cons rfl (fun K hK => ?_) ?_
                ·
                  refine step_appendIn (b := R) (by rfl) _ _ (by rfl) (by rfl) (by rfl) (own5.below ((Below.refl _ w5).alloc (Nat.le_refl _) _)) (by simp) (by omega) (by simp; omega) ?_
                  intro v7 w7 own7 ko7 b7
                  obtain ⟨p7, m7, q7, rfl⟩ := own7.slice
                  refine hK _ _ ?_
                  clear hK K
                  have bV7 : Blk w7 w.heap.size 137 #[v] := (bV5.alloc (.cells #[.int .i64 R] 3)).below b7 (by omega)
                  have c7 : w7.cell? ⟨w.heap.size, 0, none⟩ = some v := bV7.cell 0
                  have f7 : w7.frozen? ⟨w.heap.size, 0, none⟩ = false := bV7.frozen 0
                  have hz7 : w5.heap.size + 1 ≤ w7.heap.size := by have := b7.size; simpa using this
                  refine wpAnyIn_ready (rs := [6]) (by kernel_rfl) (by simp) ?_
                  refine AllReadyIn.cons rfl (fun K hK => ?_) ?_
                  ·
                    go_simp
                    refine hK _ _ ?_
                    clear hK K
                    refine wpAnyIn_done (by kernel_rfl) ?_ _
                    gi_wp2
                    refine ⟨((((KeepsOthers.drew W).trans (KeepsOthers.of_grownBy (grown_of_below b5) (fun _ _ e => by cases e))).trans (KeepsOthers.alloc w5 (.cells #[.int .i64 R] 3))).trans (ko7.trans (KeepsOthers.setCell w7 ⟨w.heap.size, 0, none⟩ (.slice p7 m7 q7)))).from _, ?_, ⟨.slice p7 m7 q7, bV7.set 0 (.slice p7 m7 q7), ?_⟩, ?_, ?_⟩
                    · exact Mid.setCell ((((Mid.of_below (Below.refl _ W).drew (by omega)).trans (Mid.of_below b5 (by show _ ≤ W.heap.size; omega))).trans (Mid.of_below ((Below.refl _ w5).alloc (Nat.le_refl _) _) (by omega))).trans (Mid.of_below b7 (Nat.le_refl _))) _ (by simp) _
                    · rw [statesP_snoc s pre x hx, ← HR.out]; exact own7.other _ (by show w.heap.size < _; omega) _
                    · exact (((hB1.drew.trans (b5.mono hB1.size)).alloc (by omega) _).trans (b7.mono (by omega))).setCell (p := ⟨w.heap.size, 0, none⟩) (Nat.le_refl _) _
                    · rw [World.size_setCell]; omega
                  exact AllReadyIn.nil
                exact AllReadyIn.nil
              exact AllReadyIn.nil
            exact AllReadyIn.nil
          exact AllReadyIn.nil
        refine AllReadyIn.cons rfl (fun K hK => ?_) ?_
        ·
          go_simp
          refine hK _ _ ?_
          clear hK K
          refine wpAnyIn_ready (rs := [0, 3]) (by kernel_rfl) (by simp) ?_
          refine AllReadyIn.cons rfl (fun K hK => ?_) ?_
          ·
            go_simp
            refine hK _ _ ?_
            clear hK K
            refine wpAnyIn_ready (rs := [3]) (by kernel_rfl) (by simp) ?_
            refine AllReadyIn.cons rfl (fun K hK => ?_) ?_
            ·
              go_simp
              gi_wp2_with (refine ⟨trivial, (fun h => by cases h), ?_⟩; refine (CallsIn.inRound l (callsIn_wide.2 (h2 _))).mono ?_; rintro e w5 ⟨rfl, b5⟩)
              (try (refine hK _ _ ?_; clear hK K))
              have bV5 : Blk w5 w.heap.size 137 #[v] := bV.drew.below b5 lV
              have c5 : w5.cell? ⟨w.heap.size, 0, none⟩ = some v := bV5.cell 0
              have c5a : ∀ o, (w5.alloc o).cell? ⟨w.heap.size, 0, none⟩ = some v := fun o => (bV5.alloc o).cell 0
              have own5 : OwnsI w5 (w.heap.size + 2) v (statesP s pre) := OwnsI.below (w := W.drew) hown b5
              have hz5 : W.heap.size ≤ w5.heap.size := b5.size
              refine wpAnyIn_ready (rs := [4]) (by kernel_rfl) (by simp) ?_
              refine AllReadyIn.cons rfl (fun K hK => ?_) ?_
              ·
                go_simp
                refine hK _ _ ?_
                clear hK K
                refine wpAnyIn_ready (rs := [5]) (by kernel_rfl) (by simp) ?_
                refine AllReadyIn.cons rfl (fun K hK => ?_) ?_
                ·
                  refine step_appendIn (b := R) (by rfl) _ _ (by rfl) (by rfl) (by rfl) (own5.below ((Below.refl _ w5).alloc (Nat.le_refl _) _)) (by simp) (by omega) (by simp; omega) ?_
                  intro v7 w7 own7 ko7 b7
                  obtain ⟨p7, m7, q7, rfl⟩ := own7.slice
                  refine hK _ _ ?_
                  clear hK K
                  have bV7 : Blk w7 w.heap.size 137 #[v] := (bV5.alloc (.cells #[.int .i64 R] 3)).below b7 (by omega)
                  have c7 : w7.cell? ⟨w.heap.size, 0, none⟩ = some v := bV7.cell 0
                  have f7 : w7.frozen? ⟨w.heap.size, 0, none⟩ = false := bV7.frozen 0
                  have hz7 : w5.heap.size + 1 ≤ w7.heap.size := by have := b7.size; simpa using this
                  refine wpAnyIn_ready (rs := [6]) (by kernel_rfl) (by simp) ?_
                  refine AllReadyIn.cons rfl (fun K hK => ?_) ?_
                  ·
                    go_simp
                    refine hK _ _ ?_
                    clear hK K
                    refine wpAnyIn_done (by kernel_rfl) ?_ _
                    gi_wp2
                    refine ⟨((((KeepsOthers.drew W).trans (KeepsOthers.of_grownBy (grown_of_below b5) (fun _ _ e => by cases e))).trans (KeepsOthers.alloc w5 (.cells #[.int .i64 R] 3))).trans (ko7.trans (KeepsOthers.setCell w7 ⟨w.heap.size, 0, none⟩ (.slice p7 m7 q7)))).from _, ?_, ⟨.slice p7 m7 q7, bV7.set 0 (.slice p7 m7 q7), ?_⟩, ?_, ?_⟩
                    · exact Mid.setCell ((((Mid.of_below (Below.refl _ W).drew (by omega)).trans (Mid.of_below b5 (by show _ ≤ W.heap.size; omega))).trans (Mid.of_below ((Below.refl _ w5).alloc (Nat.le_refl _) _) (by omega))).trans (Mid.of_below b7 (Nat.le_refl _))) _ (by simp) _
                    · rw [statesP_snoc s pre x hx, ← HR.out]; exact own7.other _ (by show w.heap.size < _; omega) _
                    · exact (((hB1.drew.trans (b5.mono hB1.size)).alloc (by omega) _).trans (b7.mono (by omega))).setCell (p := ⟨w.heap.size, 0, none⟩) (Nat.le_refl _) _
                    · rw [World.size_setCell]; omega
                  exact AllReadyIn.nil
                exact AllReadyIn.nil
              exact AllReadyIn.nil
            exact AllReadyIn.nil
          refine AllReadyIn.cons rfl (fun K hK => ?_) ?_
          ·
            go_simp
            gi_wp2_with (refine ⟨trivial, (fun h => by cases h), ?_⟩; refine (CallsIn.inRound l (callsIn_wide.2 (h2 _))).mono ?_; rintro e w5 ⟨rfl, b5⟩)
            (try (refine hK _ _ ?_; clear hK K))
            have bV5 : Blk w5 w.heap.size 137 #[v] := bV.drew.below b5 lV
            have c5 : w5.cell? ⟨w.heap.size, 0, none⟩ = some v := bV5.cell 0
            have c5a : ∀ o, (w5.alloc o).cell? ⟨w.heap.size, 0, none⟩ = some v := fun o => (bV5.alloc o).cell 0
            have own5 : OwnsI w5 (w.heap.size + 2) v (statesP s pre) := OwnsI.below (w := W.drew) hown b5
            have hz5 : W.heap.size ≤ w5.heap.size := b5.size
            refine wpAnyIn_ready (rs := [0, 4]) (by kernel_rfl) (by simp) ?_
            refine AllReadyIn.cons rfl (fun K hK => ?_) ?_
            ·
              go_simp
              refine hK _ _ ?_
              clear hK K
              refine wpAnyIn_ready (rs := [4]) (by kernel_rfl) (by simp) ?_
              refine AllReadyIn.cons rfl (fun K hK => ?_) ?_
              ·
                go_simp
                refine hK _ _ ?_
                clear hK K
                refine wpAnyIn_ready (rs := [5]) (by kernel_rfl) (by simp) ?_
                refine AllReadyIn.cons rfl (fun K hK => ?_) ?_
                ·
                  refine step_appendIn (b := R) (by rfl) _ _ (by rfl) (by rfl) (by rfl) (own5.below ((Below.refl _ w5).alloc (Nat.le_refl _) _)) (by simp) (by omega) (by simp; omega) ?_
                  intro v7 w7 own7 ko7 b7
                  obtain ⟨p7, m7, q7, rfl⟩ := own7.slice
                  refine hK _ _ ?_
                  clear hK K
                  have bV7 : Blk w7 w.heap.size 137 #[v] := (bV5.alloc (.cells #[.int .i64 R] 3)).below b7 (by omega)
                  have c7 : w7.cell? ⟨w.heap.size, 0, none⟩ = some v := bV7.cell 0
                  have f7 : w7.frozen? ⟨w.heap.size, 0, none⟩ = false := bV7.frozen 0
                  have hz7 : w5.heap.size + 1 ≤ w7.heap.size := by have := b7.size; simpa using this
                  refine wpAnyIn_ready (rs := [6]) (by kernel_rfl) (by simp) ?_
                  refine AllReadyIn.cons rfl (fun K hK => ?_) ?_
                  ·
                    go_simp
                    refine hK _ _ ?_
                    clear hK K
                    refine wpAnyIn_done (by kernel_rfl) ?_ _
                    gi_wp2
                    refine ⟨((((KeepsOthers.drew W).trans (KeepsOthers.of_grownBy (grown_of_below b5) (fun _ _ e => by cases e))).trans (KeepsOthers.alloc w5 (.cells #[.int .i64 R] 3))).trans (ko7.trans (KeepsOthers.setCell w7 ⟨w.heap.size, 0, none⟩ (.slice p7 m7 q7)))).from _, ?_, ⟨.slice p7 m7 q7, bV7.set 0 (.slice p7 m7 q7), ?_⟩, ?_, ?_⟩
                    · exact Mid.setCell ((((Mid.of_below (Below.refl _ W).drew (by omega)).trans (Mid.of_below b5 (by show _ ≤ W.heap.size; omega))).trans (Mid.of_below ((Below.refl _ w5).alloc (Nat.le_refl _) _) (by omega))).trans (Mid.of_below b7 (Nat.le_refl _))) _ (by simp) _
                    · rw [statesP_snoc s pre x hx, ← HR.out]; exact own7.other _ (by show w.heap.size < _; omega) _
                    · exact (((hB1.drew.trans (b5.mono hB1.size)).alloc (by omega) _).trans (b7.mono (by omega))).setCell (p := ⟨w.heap.size, 0, none⟩) (Nat.le_refl _) _
                    · rw [World.size_setCell]; omega
                  exact AllReadyIn.nil
                exact AllReadyIn.nil
              exact AllReadyIn.nil
            refine AllReadyIn.cons rfl (fun K hK => ?_) ?_
            ·
              go_simp
              refine hK _ _ ?_
              clear hK K
              refine wpAnyIn_ready (rs := [0]) (by kernel_rfl) (by simp) ?_
              refine AllReadyIn.cons rfl (fun K hK => ?_) ?_
              ·
                go_simp
                refine hK _ _ ?_
                clear hK K
                refine wpAnyIn_ready (rs := [5]) (by kernel_rfl) (by simp) ?_
                refine AllReadyIn.cons rfl (fun K hK => ?_) ?_
                ·
                  refine step_appendIn (b := R) (by rfl) _ _ (by rfl) (by rfl) (by rfl) (own5.below ((Below.refl _ w5).alloc (Nat.le_refl _) _)) (by simp) (by omega) (by simp; omega) ?_
                  intro v7 w7 own7 ko7 b7
                  obtain ⟨p7, m7, q7, rfl⟩ := own7.slice
                  refine hK _ _ ?_
                  clear hK K
                  have bV7 : Blk w7 w.heap.size 137 #[v] := (bV5.alloc (.cells #[.int .i64 R] 3)).below b7 (by omega)
                  have c7 : w7.cell? ⟨w.heap.size, 0, none⟩ = some v := bV7.cell 0
                  have f7 : w7.frozen? ⟨w.heap.size, 0, none⟩ = false := bV7.frozen 0
                  have hz7 : w5.heap.size + 1 ≤ w7.heap.size := by have := b7.size; simpa using this
                  refine wpAnyIn_ready (rs := [6]) (by kernel_rfl) (by simp) ?_
                  refine AllReadyIn.cons rfl (fun K hK => ?_) ?_
                  ·
                    go_simp
                    refine hK _ _ ?_
                    clear hK K
                    refine wpAnyIn_done (by kernel_rfl) ?_ _
                    gi_wp2
                    refine ⟨((((KeepsOthers.drew W).trans (KeepsOthers.of_grownBy (grown_of_below b5) (fun _ _ e => by cases e))).trans (KeepsOthers.alloc w5 (.cells #[.int .i64 R] 3))).trans (ko7.trans (KeepsOthers.setCell w7 ⟨w.heap.size, 0, none⟩ (.slice p7 m7 q7)))).from _, ?_, ⟨.slice p7 m7 q7, bV7.set 0 (.slice p7 m7 q7), ?_⟩, ?_, ?_⟩
                    · exact Mid.setCell ((((Mid.of_below (Below.refl _ W).drew (by omega)).trans (Mid.of_below b5 (by show _ ≤ W.heap.size; omega))).trans (Mid.of_below ((Below.refl _ w5).alloc (Nat.le_refl _) _) (by omega))).trans (Mid.of_below b7 (Nat.le_refl _))) _ (by simp) _
                    · rw [statesP_snoc s pre x hx, ← HR.out]; exact own7.other _ (by show w.heap.size < _; omega) _
                    · exact (((hB1.drew.trans (b5.mono hB1.size)).alloc (by omega) _).trans (b7.mono (by omega))).setCell (p := ⟨w.heap.size, 0, none⟩) (Nat.le_refl _) _
                    · rw [World.size_setCell]; omega
                  exact AllReadyIn.nil
                exact AllReadyIn.nil
              exact AllReadyIn.nil
            exact AllReadyIn.nil
          exact AllReadyIn.nil
        exact AllReadyIn.nil
      refine AllReadyIn.cons rfl (fun K hK => ?_) ?_
      ·
        go_simp
        refine hK _ _ ?_
        clear hK K
        refine wpAnyIn_ready (rs := [0, 1]) (by kernel_rfl) (by simp) ?_
        refine AllReadyIn.cons rfl (fun K hK => ?_) ?_
        ·
          go_simp
          refine hK _ _ ?_
          clear hK K
          refine wpAnyIn_ready (rs := [1]) (by kernel_rfl) (by simp) ?_
          refine AllReadyIn.cons rfl (fun K hK => ?_) ?_
          ·
            go_simp
            refine hK _ _ ?_
            clear hK K
            refine wpAnyIn_ready (rs := [3]) (by kernel_rfl) (by simp) ?_
            refine AllReadyIn.cons rfl (fun K hK => ?_) ?_
            ·
              go_simp
              gi_wp2_with (refine ⟨trivial, (fun h => by cases h), ?_⟩; refine (CallsIn.inRound l (callsIn_wide.2 (h2 _))).mono ?_; rintro e w5 ⟨rfl, b5⟩)
              (try (refine hK _ _ ?_; clear hK K))
              have bV5 : Blk w5 w.heap.size 137 #[v] := bV.drew.below b5 lV
              have c5 : w5.cell? ⟨w.heap.size, 0, none⟩ = some v := bV5.cell 0
              have c5a : ∀ o, (w5.alloc o).cell? ⟨w.heap.size, 0, none⟩ = some v := fun o => (bV5.alloc o).cell 0
              have own5 : OwnsI w5 (w.heap.size + 2) v (statesP s pre) := OwnsI.below (w := W.drew) hown b5
              have hz5 : W.heap.size ≤ w5.heap.size := b5.size
              refine wpAnyIn_ready (rs := [4]) (by kernel_rfl) (by simp) ?_
              refine AllReadyIn.cons rfl (fun K hK => ?_) ?_
              ·
                go_simp
                refine hK _ _ ?_
                clear hK K
                refine wpAnyIn_ready (rs := [5]) (by kernel_rfl) (by simp) ?_
                refine AllReadyIn.cons rfl (fun K hK => ?_) ?_
                ·
                  refine step_appendIn (b := R) (by rfl) _ _ (by rfl) (by rfl) (by rfl) (own5.below ((Below.refl _ w5).alloc (Nat.le_refl _) _)) (by simp) (by omega) (by simp; omega) ?_
                  intro v7 w7 own7 ko7 b7
                  obtain ⟨p7, m7, q7, rfl⟩ := own7.slice
                  refine hK _ _ ?_
                  clear hK K
                  have bV7 : Blk w7 w.heap.size 137 #[v] := (bV5.alloc (.cells #[.int .i64 R] 3)).below b7 (by omega)
                  have c7 : w7.cell? ⟨w.heap.size, 0, none⟩ = some v := bV7.cell 0
                  have f7 : w7.frozen? ⟨w.heap.size, 0, none⟩ = false := bV7.frozen 0
                  have hz7 : w5.heap.size + 1 ≤ w7.heap.size := by have := b7.size; simpa using this
                  refine wpAnyIn_ready (rs := [6]) (by kernel_rfl) (by simp) ?_
                  refine AllReadyIn.cons rfl (fun K hK => ?_) ?_
                  ·
                    go_simp
                    refine hK _ _ ?_
                    clear hK K
                    refine wpAnyIn_done (by kernel_rfl) ?_ _
                    gi_wp2
                    refine ⟨((((KeepsOthers.drew W).trans (KeepsOthers.of_grownBy (grown_of_below b5) (fun _ _ e => by cases e))).trans (KeepsOthers.alloc w5 (.cells #[.int .i64 R] 3))).trans (ko7.trans (KeepsOthers.setCell w7 ⟨w.heap.size, 0, none⟩ (.slice p7 m7 q7)))).from _, ?_, ⟨.slice p7 m7 q7, bV7.set 0 (.slice p7 m7 q7), ?_⟩, ?_, ?_⟩
                    · exact Mid.setCell ((((Mid.of_below (Below.refl _ W).drew (by omega)).trans (Mid.of_below b5 (by show _ ≤ W.heap.size; omega))).trans (Mid.of_below ((Below.refl _ w5).alloc (Nat.le_refl _) _) (by omega))).trans (Mid.of_below b7 (Nat.le_refl _))) _ (by simp) _
                    · rw [statesP_snoc s pre x hx, ← HR.out]; exact own7.other _ (by show w.heap.size < _; omega) _
                    · exact (((hB1.drew.trans (b5.mono hB1.size)).alloc (by omega) _).trans (b7.mono (by omega))).setCell (p := ⟨w.heap.size, 0, none⟩) (Nat.le_refl _) _
                    · rw [World.size_setCell]; omega
                  exact AllReadyIn.nil
                exact AllReadyIn.nil
              exact AllReadyIn.nil
            exact AllReadyIn.nil
          exact AllReadyIn.nil
        refine AllReadyIn.cons rfl (fun K hK => ?_) ?_
        ·
          go_simp
          refine hK _ _ ?_
          clear hK K
          refine wpAnyIn_ready (rs := [0, 3]) (by kernel_rfl) (by simp) ?_
          refine AllReadyIn.cons rfl (fun K hK => ?_) ?_
          ·
            go_simp
            refine hK _ _ ?_
            clear hK K
            refine wpAnyIn_ready (rs := [3]) (by kernel_rfl) (by simp) ?_
            refine AllReadyIn.cons rfl (fun K hK => ?_) ?_
            ·
              go_simp
              gi_wp2_with (refine ⟨trivial, (fun h => by cases h), ?_⟩; refine (CallsIn.inRound l (callsIn_wide.2 (h2 _))).mono ?_; rintro e w5 ⟨rfl, b5⟩)
              (try (refine hK _ _ ?_; clear hK K))
              have bV5 : Blk w5 w.heap.size 137 #[v] := bV.drew.below b5 lV
              have c5 : w5.cell? ⟨w.heap.size, 0, none⟩ = some v := bV5.cell 0
              have c5a : ∀ o, (w5.alloc o).cell? ⟨w.heap.size, 0, none⟩ = some v := fun o => (bV5.alloc o).cell 0
              have own5 : OwnsI w5 (w.heap.size + 2) v (statesP s pre) := OwnsI.below (w := W.drew) hown b5
              have hz5 : W.heap.size ≤ w5.heap.size := b5.size
              refine wpAnyIn_ready (rs := [4]) (by kernel_rfl) (by simp) ?_
              refine AllReadyIn.cons rfl (fun K hK => ?_) ?_
              ·
                go_simp
                refine hK _ _ ?_
                clear hK K
                refine wpAnyIn_ready (rs := [5]) (by kernel_rfl) (by simp) ?_
                refine AllReadyIn.cons rfl (fun K hK => ?_) ?_
                ·
                  refine step_appendIn (b := R) (by rfl) _ _ (by rfl) (by rfl) (by rfl) (own5.below ((Below.refl _ w5).alloc (Nat.le_refl _) _)) (by simp) (by omega) (by simp; omega) ?_
                  intro v7 w7 own7 ko7 b7
                  obtain ⟨p7, m7, q7, rfl⟩ := own7.slice
                  refine hK _ _ ?_
                  clear hK K
                  have bV7 : Blk w7 w.heap.size 137 #[v] := (bV5.alloc (.cells #[.int .i64 R] 3)).below b7 (by omega)
                  have c7 : w7.cell? ⟨w.heap.size, 0, none⟩ = some v := bV7.cell 0
                  have f7 : w7.frozen? ⟨w.heap.size, 0, none⟩ = false := bV7.frozen 0
                  have hz7 : w5.heap.size + 1 ≤ w7.heap.size := by have := b7.size; simpa using this
                  refine wpAnyIn_ready (rs := [6]) (by kernel_rfl) (by simp) ?_
                  refine AllReadyIn.cons rfl (fun K hK => ?_) ?_
                  ·
                    go_simp
                    refine hK _ _ ?_
                    clear hK K
                    refine wpAnyIn_done (by kernel_rfl) ?_ _
                    gi_wp2
                    refine ⟨((((KeepsOthers.drew W).trans (KeepsOthers.of_grownBy (grown_of_below b5) (fun _ _ e => by cases e))).trans (KeepsOthers.alloc w5 (.cells #[.int .i64 R] 3))).trans (ko7.trans (KeepsOthers.setCell w7 ⟨w.heap.size, 0, none⟩ (.slice p7 m7 q7)))).from _, ?_, ⟨.slice p7 m7 q7, bV7.set 0 (.slice p7 m7 q7), ?_⟩, ?_, ?_⟩
                    · exact Mid.setCell ((((Mid.of_below (Below.refl _ W).drew (by omega)).trans (Mid.of_below b5 (by show _ ≤ W.heap.size; omega))).trans (Mid.of_below ((Below.refl _ w5).alloc (Nat.le_refl _) _) (by omega))).trans (Mid.of_below b7 (Nat.le_refl _))) _ (by simp) _
                    · rw [statesP_snoc s pre x hx, ← HR.out]; exact own7.other _ (by show w.heap.size < _; omega) _
                    · exact (((hB1.drew.trans (b5.mono hB1.size)).alloc (by omega) _).trans (b7.mono (by omega))).setCell (p := ⟨w.heap.size, 0, none⟩) (Nat.le_refl _) _
                    · rw [World.size_setCell]; omega
                  exact AllReadyIn.nil
                exact AllReadyIn.nil
              exact AllReadyIn.nil
            exact AllReadyIn.nil
          refine AllReadyIn.cons rfl (fun K hK => ?_) ?_
          ·
            go_simp
            gi_wp2_with (refine ⟨trivial, (fun h => by cases h), ?_⟩; refine (CallsIn.inRound l (callsIn_wide.2 (h2 _))).mono ?_; rintro e w5 ⟨rfl, b5⟩)
            (try (refine hK _ _ ?_; clear hK K))
            have bV5 : Blk w5 w.heap.size 137 #[v] := bV.drew.below b5 lV
            have c5 : w5.cell? ⟨w.heap.size, 0, none⟩ = some v := bV5.cell 0
            have c5a : ∀ o, (w5.alloc o).cell? ⟨w.heap.size, 0, none⟩ = some v := fun o => (bV5.alloc o).cell 0
            have own5 : OwnsI w5 (w.heap.size + 2) v (statesP s pre) := OwnsI.below (w := W.drew) hown b5
            have hz5 : W.heap.size ≤ w5.heap.size := b5.size
            refine wpAnyIn_ready (rs := [0, 4]) (by kernel_rfl) (by simp) ?_
            refine AllReadyIn.cons rfl (fun K hK => ?_) ?_
            ·
              go_simp
              refine hK _ _ ?_
              clear hK K
              refine wpAnyIn_ready (rs := [4]) (by kernel_rfl) (by simp) ?_
              refine AllReadyIn.cons rfl (fun K hK => ?_) ?_
              ·
                go_simp
                refine hK _ _ ?_
                clear hK K
                refine wpAnyIn_ready (rs := [5]) (by kernel_rfl) (by simp) ?_
                refine AllReadyIn.cons rfl (fun K hK => ?_) ?_
                ·
                  refine step_appendIn (b := R) (by rfl) _ _ (by rfl) (by rfl) (by rfl) (own5.below ((Below.refl _ w5).alloc (Nat.le_refl _) _)) (by simp) (by omega) (by simp; omega) ?_
                  intro v7 w7 own7 ko7 b7
                  obtain ⟨p7, m7, q7, rfl⟩ := own7.slice
                  refine hK _ _ ?_
                  clear hK K
                  have bV7 : Blk w7 w.heap.size 137 #[v] := (bV5.alloc (.cells #[.int .i64 R] 3)).below b7 (by omega)
                  have c7 : w7.cell? ⟨w.heap.size, 0, none⟩ = some v := bV7.cell 0
                  have f7 : w7.frozen? ⟨w.heap.size, 0, none⟩ = false := bV7.frozen 0
                  have hz7 : w5.heap.size + 1 ≤ w7.heap.size := by have := b7.size; simpa using this
                  refine wpAnyIn_ready (rs := [6]) (by kernel_rfl) (by simp) ?_
                  refine AllReadyIn.cons rfl (fun K hK => ?_) ?_
                  ·
                    go_simp
                    refine hK _ _ ?_
                    clear hK K
                    refine wpAnyIn_done (by kernel_rfl) ?_ _
                    gi_wp2
                    refine ⟨((((KeepsOthers.drew W).trans (KeepsOthers.of_grownBy (grown_of_below b5) (fun _ _ e => by cases e))).trans (KeepsOthers.alloc w5 (.cells #[.int .i64 R] 3))).trans (ko7.trans (KeepsOthers.setCell w7 ⟨w.heap.size, 0, none⟩ (.slice p7 m7 q7)))).from _, ?_, ⟨.slice p7 m7 q7, bV7.set 0 (.slice p7 m7 q7), ?_⟩, ?_, ?_⟩
                    · exact Mid.setCell ((((Mid.of_below (Below.refl _ W).drew (by omega)).trans (Mid.of_below b5 (by show _ ≤ W.heap.size; omega))).trans (Mid.of_below ((Below.refl _ w5).alloc (Nat.le_refl _) _) (by omega))).trans (Mid.of_below b7 (Nat.le_refl _))) _ (by simp) _
                    · rw [statesP_snoc s pre x hx, ← HR.out]; exact own7.other _ (by show w.heap.size < _; omega) _
                    · exact (((hB1.drew.trans (b5.mono hB1.size)).alloc (by omega) _).trans (b7.mono (by omega))).setCell (p := ⟨w.heap.size, 0, none⟩) (Nat.le_refl _) _
                    · rw [World.size_setCell]; omega
                  exact AllReadyIn.nil
                exact AllReadyIn.nil
              exact AllReadyIn.nil
            refine AllReadyIn.cons rfl (fun K hK => ?_) ?_
            ·
              go_simp
              refine hK _ _ ?_
              clear hK K
              refine wpAnyIn_ready (rs := [0]) (by kernel_rfl) (by simp) ?_
              refine AllReadyIn.cons rfl (fun K hK => ?_) ?_
              ·
                go_simp
                refine hK _ _ ?_
                clear hK K
                refine wpAnyIn_ready (rs := [5]) (by kernel_rfl) (by simp) ?_
                refine AllReadyIn.cons rfl (fun K hK => ?_) ?_
                ·
                  refine step_appendIn (b := R) (by rfl) _ _ (by rfl) (by rfl) (by rfl) (own5.below ((Below.refl _ w5).alloc (Nat.le_refl _) _)) (by simp) (by omega) (by simp; omega) ?_
                  intro v7 w7 own7 ko7 b7
                  obtain ⟨p7, m7, q7, rfl⟩ := own7.slice
                  refine hK _ _ ?_
                  clear hK K
                  have bV7 : Blk w7 w.heap.size 137 #[v] := (bV5.alloc (.cells #[.int .i64 R] 3)).below b7 (by omega)
                  have c7 : w7.cell? ⟨w.heap.size, 0, none⟩ = some v := bV7.cell 0
                  have f7 : w7.frozen? ⟨w.heap.size, 0, none⟩ = false := bV7.frozen 0
                  have hz7 : w5.heap.size + 1 ≤ w7.heap.size := by have := b7.size; simpa using this
                  refine wpAnyIn_ready (rs := [6]) (by kernel_rfl) (by simp) ?_
                  refine AllReadyIn.cons rfl (fun K hK => ?_) ?_
                  ·
                    go_simp
                    refine hK _ _ ?_
                    clear hK K
                    refine wpAnyIn_done (by kernel_rfl) ?_ _
                    gi_wp2
                    refine ⟨((((KeepsOthers.drew W).trans (KeepsOthers.of_grownBy (grown_of_below b5) (fun _ _ e => by cases e))).trans (KeepsOthers.alloc w5 (.cells #[.int .i64 R] 3))).trans (ko7.trans (KeepsOthers.setCell w7 ⟨w.heap.size, 0, none⟩ (.slice p7 m7 q7)))).from _, ?_, ⟨.slice p7 m7 q7, bV7.set 0 (.slice p7 m7 q7), ?_⟩, ?_, ?_⟩
                    · exact Mid.setCell ((((Mid.of_below (Below.refl _ W).drew (by omega)).trans (Mid.of_below b5 (by show _ ≤ W.heap.size; omega))).trans (Mid.of_below ((Below.refl _ w5).alloc (Nat.le_refl _) _) (by omega))).trans (Mid.of_below b7 (Nat.le_refl _))) _ (by simp) _
                    · rw [statesP_snoc s pre x hx, ← HR.out]; exact own7.other _ (by show w.heap.size < _; omega) _
                    · exact (((hB1.drew.trans (b5.mono hB1.size)).alloc (by omega) _).trans (b7.mono (by omega))).setCell (p := ⟨w.heap.size, 0, none⟩) (Nat.le_refl _) _
                    · rw [World.size_setCell]; omega
                  exact AllReadyIn.nil
                exact AllReadyIn.nil
              exact AllReadyIn.nil
            exact AllReadyIn.nil
          exact AllReadyIn.nil
        exact AllReadyIn.nil
      exact AllReadyIn.nil
    · have hq : ¬ (0 < (x.1 : Int)) := by omega
      have HN := Lib.hid (statesP_zero s pre x (by omega))
      gi_wp2
      exact ⟨(KeepsOthers.refl W).from _, Mid.refl _ _ _, ⟨⟨v, bV, by rw [HN.out]; exact hown⟩, hB1, hW2⟩⟩
  case done =>
    rintro D zs W hD rfl ⟨⟨v, bV, hown⟩, hB1, hW2⟩ hK
    obtain ⟨p7, m7, q7, rfl⟩ := hown.slice
    have cV := bV.cell 0
    have fV := bV.frozen 0
    gi_wp2
    have bX2 := bV.set 0 (.slice p7 m7 q7)
    have own2 := hown.other ⟨w.heap.size, 0, none⟩ (by show w.heap.size < _; omega) (.slice p7 m7 q7)
    have hK' := (KeepsOthers.setCell W ⟨w.heap.size, 0, none⟩ (.slice p7 m7 q7)).same D _ hK rfl
    have bX3 := blk_own w.heap.size 137 (fun (_ : Unit) => #[.slice p7 m7 q7]) () _ _ _ bX2 (grownBy_putObj' _ D (.deferred none)) (fun r e => by cases e; exact ⟨_, hK', rfl⟩)
    have own3 := own2.keeps (grownBy_putObj' _ D (.deferred none)) (fun r e => by cases e; exact ⟨_, hK', rfl⟩)
    have hc5 := bX3.cell 0
    refine ⟨by simp, .inl ⟨_, _, rfl, run_takeDeferred hK', ?_⟩⟩
    refine ⟨.slice p7 m7 q7, ?_, .slice p7 m7 q7, rfl, ?_, ?_⟩
    · simp [results, Tryz.f113, go_sem, hc5]
    · exact own3.base (by omega)
    · exact (hB1.setCell (p := ⟨w.heap.size, 0, none⟩) (by simp) _).trans (belowK_b (w := w) (Nat.le_refl _) _ D _ _ (by omega) hK' rfl rfl)
  case stop =>
    rintro D c pre W _ _ h _
    exact h.elim

/-- what States answers: a slice of the call's own that holds the states -/
def StatesPost (s : ByteArray) (w : World) (e : Ending) (w' : World) : Prop := ∃ v, e = .returned v ∧ OwnsI w' w.heap.size v (statesL s) ∧ Below w.heap.size w w'
theorem States_any (s : ByteArray) (hs : s.size ≤ maxLen) (w : World) : Calls Tryz.prog 113 #[.string s] w (StatesPost s w) := callsIn_wide.1 (States_in 5 (by omega) s hs w)
end Go.Proofs.YtebkeocpojlepaaGreatDoor

/- Plain laws of banks. -/
namespace Go.Proofs.YtebkeocpojlepaaGreatDoor
open Go.RowKit
set_option linter.unusedVariables false
set_option linter.unusedSimpArgs false

theorem slotS_nat (s : ByteArray) (j : Nat) (h : j < placeN s) : slotS s (j : Int) = place s j := by
  unfold slotS; rw [if_pos (by omega), Int.toNat_natCast]
theorem slotS_none (s : ByteArray) (i : Int) (h : i < 0 ∨ (placeN s : Int) ≤ i) : slotS s i = ⟨#[]⟩ := by
  unfold slotS; rw [if_neg (by omega)]

theorem statesL_length (s : ByteArray) : (statesL s).length = placeN s - 1 := by
  unfold statesL statesP ups
  rw [List.take_of_length_le (by simp), List.length_map]
  generalize placeN s = n
  cases n with
  | zero => rfl
  | succ m => rw [List.finRange_succ, List.filter_cons_of_neg (by simp), List.filter_map, List.filter_eq_self.2 (by simp)]; simp
theorem statesL_get (s : ByteArray) (j : Nat) (h : j + 1 < placeN s) : (statesL s)[j]? = some (stateS s ((j : Int) + 1)) := by
  have hs : stateS s ((j : Int) + 1) = stateP (((j + 1 : Nat)) : Int) (place s (j + 1)) := by
    unfold stateS
    have := slotS_nat s (j + 1) h
    rw [show ((j + 1 : Nat) : Int) = (j : Int) + 1 by omega] at this ⊢
    rw [this]
  rw [hs]
  unfold statesL statesP ups
  rw [List.take_of_length_le (by simp)]
  revert h
  generalize hg : (fun (j : Nat) => stateP (j : Int) (place s j)) = g
  have e : ∀ (n : Nat), ((List.finRange n).filter (fun j => decide (0 < j.1))).map (fun j => stateP (j.1 : Int) (place s j.1)) = ((List.finRange n).filter (fun j => decide (0 < j.1))).map (fun j => g j.1) := fun n => by rw [← hg]
  rw [e, show stateP (((j + 1 : Nat)) : Int) (place s (j + 1)) = g (j + 1) by rw [← hg]]
  generalize placeN s = n
  intro h
  cases n with
  | zero => omega
  | succ m =>
    rw [List.finRange_succ, List.filter_cons_of_neg (by simp), List.filter_map]
    rw [List.map_map, List.getElem?_map, List.filter_eq_self.2 (by simp), List.getElem?_eq_getElem (by simp; omega)]
    simp

theorem OwnsI.form {w : World} {base : Nat} {v : Value} {l : List Int} (h : OwnsI w base v l) (hl : 0 < l.length) :
    ∃ g cap, v = .slice (some ⟨g, 0, none⟩) l.length cap ∧ base ≤ g ∧ g < w.heap.size ∧ ∀ (j : Nat) (n : Int), l[j]? = some n → w.cell? ⟨g, j, none⟩ = some (.int .i64 n) := by
  have h' := h
  obtain ⟨h1, h2⟩ := h
  rcases h2 with ⟨rfl, h0⟩ | ⟨g, cap, cur, rfl, hg, hh, r⟩
  · omega
  · refine ⟨g, cap, rfl, hg, (Array.getElem?_eq_some_iff.1 hh).1, fun j n hj => ?_⟩
    have hlt : j < l.length := (List.getElem?_eq_some_iff.1 hj).1
    rw [World.ownsRow.cellAt h' j (by omega)]
    unfold icells
    rw [List.getElem?_map, hj]
    rfl
theorem OwnsI.nil {w : World} {base : Nat} {v : Value} {l : List Int} (h : OwnsI w base v l) : ∃ p c, v = .slice p l.length c := by
  obtain ⟨h1, h2⟩ := h
  rcases h2 with ⟨rfl, h0⟩ | ⟨g, cap, cur, rfl, hg, hh, r⟩
  · exact ⟨_, _, by rw [h0]⟩
  · exact ⟨_, _, rfl⟩

theorem full_ext (n a b : Nat) (h : b ≤ n) : (fullB n).extract a b = fullB (b - a) := by
  apply ByteArray.ext
  apply Array.ext'
  unfold fullB
  rw [ByteArray.data_extract, Array.toList_extract, List.extract_eq_take_drop]
  simp [List.drop_replicate, List.take_replicate]
  omega
theorem dec_full : dec (fullB 24) = (0, 0, 0, 5) := by decide +kernel
theorem dec_empty : dec ⟨#[]⟩ = (0, 0, 0, 1) := by decide +kernel
theorem stateP_full (i : Int) : stateP i (fullB 24) = 0 := by unfold stateP decE; rw [dec_full]; rfl
theorem stateP_empty (i : Int) : stateP i ⟨#[]⟩ = 1 := by unfold stateP decE; rw [dec_empty]; rw [if_neg (by decide), if_pos (.inl (by decide))]

/-- a bank of k slots, made of what lies ahead of the place i, the place, and what lies behind it -/
structure Made (X A T C : ByteArray) (i k : Nat) : Prop where
  eq : X = A ++ T ++ C
  ha : A.size = 24 * i
  ht : T.size = 24
  hc : C.size = 24 * (k - i)
  hi : i ≤ k
  h1 : 1 ≤ k
  h12 : k ≤ 12
theorem Made.size {X A T C : ByteArray} {i k : Nat} (h : Made X A T C i k) : X.size = 24 * (k + 1) := by
  rw [h.eq, ByteArray.size_append, ByteArray.size_append, h.ha, h.ht, h.hc]; have := h.hi; omega
theorem Made.placeN {X A T C : ByteArray} {i k : Nat} (h : Made X A T C i k) : placeN X = k + 1 := by
  have := h.size
  have h1 := h.h1
  have h12 := h.h12
  unfold Go.Proofs.YtebkeocpojlepaaGreatDoor.placeN
  rw [if_pos (by omega)]; omega
theorem ext_app_left (X Y : ByteArray) (a b : Nat) (h : b ≤ X.size) : (X ++ Y).extract a b = X.extract a b := by
  have e1 : X.data.toList.length = X.size := by simp
  apply ByteArray.ext
  apply Array.ext'
  rw [ByteArray.data_extract, ByteArray.data_append, Array.toList_extract, Array.toList_append, List.extract_eq_take_drop, ByteArray.data_extract, Array.toList_extract, List.extract_eq_take_drop]
  by_cases hab : a ≤ b
  · rw [List.drop_append_of_le_length (by omega), List.take_append_of_le_length (by rw [List.length_drop]; omega)]
  · rw [show b - a = 0 by omega]; simp
theorem ext_app_right (X Y : ByteArray) (a b : Nat) (h : X.size ≤ a) : (X ++ Y).extract a b = Y.extract (a - X.size) (b - X.size) := by
  have e1 : X.data.toList.length = X.size := by simp
  apply ByteArray.ext
  apply Array.ext'
  rw [ByteArray.data_extract, ByteArray.data_append, Array.toList_extract, Array.toList_append, List.extract_eq_take_drop, ByteArray.data_extract, Array.toList_extract, List.extract_eq_take_drop]
  rw [List.drop_append, List.drop_eq_nil_of_le (by omega), List.nil_append, e1, show b - a = b - X.size - (a - X.size) by omega]
theorem ext_all (X : ByteArray) (n : Nat) (h : X.size = n) : X.extract 0 n = X := by subst h; simp
theorem Made.at {X A T C : ByteArray} {i k : Nat} (h : Made X A T C i k) : place X i = T := by
  unfold place
  rw [h.eq, ext_app_left _ _ _ _ (by rw [ByteArray.size_append, h.ha, h.ht]; omega), ext_app_right _ _ _ _ (by rw [h.ha]; omega), h.ha, show 24 * i - 24 * i = 0 by omega, show 24 * i + 24 - 24 * i = 24 by omega, ext_all _ _ h.ht]
theorem Made.ahead {X A T C : ByteArray} {i k : Nat} (h : Made X A T C i k) (j : Nat) (hj : j < i) : place X j = A.extract (24 * j) (24 * j + 24) := by
  unfold place
  rw [h.eq, ByteArray.append_assoc, ext_app_left _ _ _ _ (by rw [h.ha]; omega)]
theorem Made.behind {X A T C : ByteArray} {i k : Nat} (h : Made X A T C i k) (j : Nat) (hj : i < j) : place X j = C.extract (24 * (j - i - 1)) (24 * (j - i - 1) + 24) := by
  unfold place
  have hz : (A ++ T).size = 24 * i + 24 := by rw [ByteArray.size_append, h.ha, h.ht]
  rw [h.eq, ext_app_right _ _ _ _ (by omega), hz, show 24 * j - (24 * i + 24) = 24 * (j - i - 1) by omega, show 24 * j + 24 - (24 * i + 24) = 24 * (j - i - 1) + 24 by omega]
end Go.Proofs.YtebkeocpojlepaaGreatDoor

/- scan.Good, Next, Last, Sound. -/
namespace Go.Proofs.YtebkeocpojlepaaGreatDoor
open Go.RowKit
set_option linter.unusedVariables false
set_option linter.unusedSimpArgs false

/-- the cells of the states, in a world -/
def StC (s : ByteArray) (p : Option Addr) (B : Nat) (W : World) : Prop :=
  ∀ j : Nat, j + 1 < placeN s → ∃ g : Nat, p = some ⟨g, 0, none⟩ ∧ B < g ∧ g < W.heap.size ∧ W.cell? ⟨g, j, none⟩ = some (.int .i64 (stateS s ((j : Int) + 1)))
theorem StC.below {s p B W W'} (h : StC s p B W) (hb : Below W.heap.size W W') : StC s p B W' := fun j hj => by
  obtain ⟨g, h1, h2, h3, h4⟩ := h j hj
  exact ⟨g, h1, h2, Nat.lt_of_lt_of_le h3 hb.size, (hb.cell (p := ⟨g, j, none⟩) h3).trans h4⟩
theorem cell_other (W : World) (p q : Addr) (u : Value) (h : p.block ≠ q.block) : (W.setCell p u).cell? q = W.cell? q :=
  World.cell?_of_block (Below.heap_setCell W p u q.block (Ne.symm h))
theorem StC.set {s p B W} (h : StC s p B W) (k : Nat) (u : Value) : StC s p B (W.setCell ⟨B, k, none⟩ u) := fun j hj => by
  obtain ⟨g, h1, h2, h3, h4⟩ := h j hj
  exact ⟨g, h1, h2, by simpa using h3, (cell_other W _ _ u (by simp; omega)).trans h4⟩

/-- what bank.States hands over, as a slice and its cells -/
theorem states_cells {s : ByteArray} {w W : World} {v : Value} (B : Nat) (hB : B < w.heap.size) (own : OwnsI W w.heap.size v (statesL s)) :
    ∃ p c, v = .slice p ((placeN s - 1 : Nat)) c ∧ StC s p B W := by
  have hl := statesL_length s
  by_cases h : 0 < (statesL s).length
  · obtain ⟨g, cap, rfl, hg, hgl, hcells⟩ := own.form h
    exact ⟨_, cap, by rw [hl], fun j hj => ⟨g, rfl, by omega, hgl, hcells j _ (statesL_get s j hj)⟩⟩
  · obtain ⟨p, c, rfl⟩ := own.nil
    exact ⟨p, c, by rw [hl], fun j hj => by omega⟩

/-! ### how many are good -/
def goodN (s : ByteArray) : Nat → Nat
  | 0 => 0
  | k + 1 => goodN s k + (if stateS s ((k : Int) + 1) = 2 then 1 else 0)
theorem goodN_le (s : ByteArray) (k : Nat) : goodN s k ≤ k := by
  induction k with
  | zero => simp [goodN]
  | succ k ih => unfold goodN; split <;> omega
def goodS (s : ByteArray) : Nat := goodN s (placeN s - 1)


/-- how many blank ones stand at the end of the first m -/
def free (s : ByteArray) : Nat → Nat
  | 0 => 0
  | m + 1 => if stateS s ((m : Int) + 1) = 0 then free s m + 1 else 0
theorem free_le (s : ByteArray) (m : Nat) : free s m ≤ m := by
  induction m with
  | zero => simp [free]
  | succ m ih => unfold free; split <;> omega
theorem free_zero (s : ByteArray) (m : Nat) : ∀ j : Nat, m - free s m < j → j ≤ m → stateS s (j : Int) = 0 := by
  induction m with
  | zero => intro j h1 h2; omega
  | succ m ih =>
    intro j h1 h2
    unfold free at h1
    split at h1
    · rename_i h
      by_cases hj : j = m + 1
      · subst hj; rw [← h]; congr 1
      · exact ih j (by have := free_le s m; omega) (by omega)
    · omega
theorem free_stop (s : ByteArray) (m : Nat) : ∀ j : Nat, m - free s m = j → 0 < j → stateS s (j : Int) ≠ 0 := by
  induction m with
  | zero => intro j h1 h2; omega
  | succ m ih =>
    intro j h1 h2
    unfold free at h1
    split at h1
    · exact ih j (by have := free_le s m; omega) h2
    · rename_i h
      obtain rfl : j = m + 1 := by omega
      rw [show ((m + 1 : Nat) : Int) = (m : Int) + 1 by omega]
      exact h
def nextS (s : ByteArray) : Int := if free s (placeN s - 1) = 0 then 0 else ((placeN s - 1 : Nat) : Int) - (free s (placeN s - 1) : Int) + 1

set_option maxHeartbeats 1000000 in
theorem Next_any (s : ByteArray) (hs : s.size ≤ maxLen) (w : World) :
    Calls Tryz.prog 91 #[.string s] w fun e w' => e = .returned (.int .i64 (nextS s)) ∧ Below w.heap.size w w' := by
  have h3 := States_any s hs
  unfold StatesPost at h3
  have hN : placeN s ≤ 13 := by unfold placeN; split <;> omega
  have hfz := free_zero s (placeN s - 1)
  have hfs := free_stop s (placeN s - 1)
  have hfl := free_le s (placeN s - 1)
  have hnx : nextS s = if free s (placeN s - 1) = 0 then 0 else ((placeN s - 1 : Nat) : Int) - (free s (placeN s - 1) : Int) + 1 := rfl
  obtain ⟨n, hn⟩ : ∃ n, n = placeN s - 1 := ⟨_, rfl⟩
  have HN := Lib.hid hn
  have hn12 : n ≤ 12 := by omega
  rw [← hn] at hfz hfs hfl hnx
  clear hn hN
  generalize free s n = F at *
  generalize nextS s = R at *
  have HZ := Lib.hid hfz
  have HS := Lib.hid hfs
  have HR := Lib.hid hnx
  clear hfz hfs hnx
  go_enter Tryz.func91, Tryz.ntmps91
  go_wp2_with fail
  refine (h3 _).mono ?_
  rintro e w3 ⟨v, rfl, own3, b3⟩
  have hcell : ∃ p c, v = .slice p (n : Nat) c ∧ ∀ j : Nat, j < n → ∃ g : Nat, p = some ⟨g, 0, none⟩ ∧ w3.cell? ⟨g, j, none⟩ = some (.int .i64 (stateS s ((j : Int) + 1))) := by
    have hl := statesL_length s
    have hn := HN.out
    by_cases h : 0 < (statesL s).length
    · obtain ⟨g, cap, rfl, hg, hgl, hcells⟩ := own3.form h
      exact ⟨_, cap, by rw [hl, hn], fun j hj => ⟨g, rfl, hcells j _ (statesL_get s j (by omega))⟩⟩
    · obtain ⟨p, c, rfl⟩ := own3.nil
      exact ⟨p, c, by rw [hl, hn], fun j hj => by omega⟩
  obtain ⟨p, c, rfl, hF⟩ := hcell
  have HF := Lib.hid hF
  clear hF own3
  go_wp2_with fail
  go_loopw [4, 9] (fun m i wr => ∃ k : Nat, k ≤ F ∧ i = .int .i64 k ∧ m = .int .i64 (k : Nat) ∧ wr = w3) (fun _ i _ => n - (intOf i).toNat)
  case atStart => exact ⟨0, by omega, rfl, rfl, rfl⟩
  case round =>
    obtain ⟨k, hk, rfl, rfl, rfl⟩ := hrel
    by_cases hlt : k < n
    · obtain ⟨q, hq⟩ : ∃ q : Nat, (n : Int) - 1 - (k : Int) = (q : Int) := ⟨n - 1 - k, by omega⟩
      obtain ⟨g, hp, hc⟩ := HF.out q (by omega)
      subst hp
      by_cases hkF : k < F
      · have hz := HZ.out (q + 1) (by omega) (by omega)
        rw [show ((q + 1 : Nat) : Int) = (q : Int) + 1 by omega] at hz
        rw [hz] at hc
        clear hz
        have hqn : q < n := by omega
        go_wp2_with fail
        go_roundw
        case rel => exact ⟨k + 1, by omega, by go_num, by go_num, by trivial⟩
        case measure => simp [intOf]; omega
      · have hkF' : k = F := by omega
        have hz := HS.out (q + 1) (by omega) (by omega)
        rw [show ((q + 1 : Nat) : Int) = (q : Int) + 1 by omega] at hz
        generalize stateS s ((q : Int) + 1) = S at *
        have hS : (S != 0) = true := by simpa using hz
        have hqn : q < n := by omega
        have hR := HR.out
        rw [← hkF'] at hR
        clear hz hkF hkF'
        by_cases hk0 : k = 0
        · rw [if_pos hk0] at hR
          have hk0' : ((k : Int) == 0) = true := by simp; omega
          have HR2 := Lib.hid hR
          clear hR hk0
          go_wp2_with fail
          go_ret
          exact ⟨ret_int HR2.out.symm, b3⟩
        · have hk0' : ((k : Int) == 0) = false := by simp; omega
          rw [if_neg hk0] at hR
          have HR2 := Lib.hid hR
          clear hR hk0
          go_wp2_with fail
          go_ret
          exact ⟨ret_int HR2.out.symm, b3⟩
    · have hkF' : k = F := by omega
      have hkn : k = n := by omega
      have hR := HR.out
      rw [← hkF'] at hR
      clear hkF'
      by_cases hk0 : k = 0
      · rw [if_pos hk0] at hR
        have HR2 := Lib.hid hR
        have d1 : decide ((k : Int) < (n : Int)) = false := by simp; omega
        have hk0' : ((k : Int) == 0) = true := by simp; omega
        clear hR hk0 hkn
        go_wp2_with fail
        go_ret
        exact ⟨ret_int HR2.out.symm, b3⟩
      · have hk0' : ((k : Int) == 0) = false := by simp; omega
        rw [if_neg hk0] at hR
        have HR2 := Lib.hid hR
        have d1 : decide ((k : Int) < (n : Int)) = false := by simp; omega
        clear hR hk0 hkn
        go_wp2_with fail
        go_ret
        exact ⟨ret_int HR2.out.symm, b3⟩

/-! ### sound -/
def soundS (s : ByteArray) : Bool := decide (genE s = 0 ∧ 0 < goodS s)
end Go.Proofs.YtebkeocpojlepaaGreatDoor

/- scan.Last. -/
namespace Go.Proofs.YtebkeocpojlepaaGreatDoor
open Go.RowKit
set_option linter.unusedVariables false
set_option linter.unusedSimpArgs false

/-- the slot of the last record among the first k -/
def lastK (s : ByteArray) : Nat → Option Nat
  | 0 => none
  | k + 1 => if stateS s ((k : Int) + 1) = 2 then
      (match lastK s k with
        | none => some (k + 1)
        | some m => if decN (slotS s ((k : Int) + 1)) < decN (slotS s (m : Int)) then some m else some (k + 1))
    else lastK s k
def oK (s : ByteArray) : Option Nat → Nat | none => 0 | some m => decK (slotS s (m : Int))
def oN (s : ByteArray) : Option Nat → Nat | none => 0 | some m => decN (slotS s (m : Int))
def oD (s : ByteArray) : Option Nat → Nat | none => 0 | some m => decD (slotS s (m : Int))
def oE : Option Nat → Int | none => 10 | some _ => 0

theorem lastK_skip {s : ByteArray} {k : Nat} (h : stateS s ((k : Int) + 1) ≠ 2) : lastK s (k + 1) = lastK s k := by
  rw [lastK, if_neg h]
theorem lastK_elder {s : ByteArray} {k m : Nat} (h : stateS s ((k : Int) + 1) = 2) (hm : lastK s k = some m) (hn : decN (slotS s ((k : Int) + 1)) < decN (slotS s (m : Int))) : lastK s (k + 1) = some m := by
  rw [lastK, if_pos h, hm]
  simp [hn]
theorem lastK_newer {s : ByteArray} {k m : Nat} (h : stateS s ((k : Int) + 1) = 2) (hm : lastK s k = some m) (hn : ¬ decN (slotS s ((k : Int) + 1)) < decN (slotS s (m : Int))) : lastK s (k + 1) = some (k + 1) := by
  rw [lastK, if_pos h, hm]
  simp [hn]
theorem lastK_first {s : ByteArray} {k : Nat} (h : stateS s ((k : Int) + 1) = 2) (hm : lastK s k = none) : lastK s (k + 1) = some (k + 1) := by
  rw [lastK, if_pos h, hm]

def lastS (s : ByteArray) : Option Nat := lastK s (placeN s - 1)
def lastV (s : ByteArray) : Value := .tuple #[.agg #[.int .i64 (oK s (lastS s) : Nat), .int .u64 (oN s (lastS s) : Nat), .int .u64 (oD s (lastS s) : Nat)], .int .i64 (oE (lastS s))]

/-- the box of the best one -/
def Best (s : ByteArray) (o : Option Nat) (B : Nat) (W : World) : Prop := Blk W B 166 #[.int .i64 (oK s o : Nat), .int .u64 (oN s o : Nat), .int .u64 (oD s o : Nat)]

set_option maxHeartbeats 4000000 in
theorem Last_any (s : ByteArray) (hs : s.size ≤ maxLen) (w : World) :
    Calls Tryz.prog 98 #[.string s] w fun e w' => e = .returned (lastV s) ∧ Below w.heap.size w w' := by
  have h3 := States_any s hs
  unfold StatesPost at h3
  have hN : placeN s ≤ 13 := by unfold placeN; split <;> omega
  unfold lastV lastS
  have hRec := fun k : Nat => Record_any s ((k : Int) + 1) hs
  unfold decV recV at hRec
  obtain ⟨n, hn⟩ : ∃ n, n = placeN s - 1 := ⟨_, rfl⟩
  have HN := Lib.hid hn
  have hn12 : n ≤ 12 := by omega
  rw [← hn]
  clear hn hN
  have k0 := Blk.new w 166 #[.int .i64 0, .int .u64 0, .int .u64 0]
  have B0 : Below w.heap.size w (w.alloc (.cells #[.int .i64 0, .int .u64 0, .int .u64 0] 166)) := (Below.refl _ w).alloc (Nat.le_refl _) _
  have hz : w.heap.size < (w.alloc (.cells #[.int .i64 0, .int .u64 0, .int .u64 0] 166)).heap.size := by simp
  go_enter Tryz.func98, Tryz.ntmps98
  go_wp2_with fail
  generalize w.alloc (.cells #[.int .i64 0, .int .u64 0, .int .u64 0] 166) = W0 at *
  go_step3
  go_wp2_with fail
  go_step3
  go_wp2_with fail
  refine (h3 _).mono ?_
  rintro e w3 ⟨v, rfl, own3, b3⟩
  have hcell := states_cells (W := w3) w.heap.size hz own3
  obtain ⟨p, c, rfl, hF⟩ := hcell
  have k3 : Best s none w.heap.size w3 := k0.below b3 k0.lt
  have B3 := bthen B0 b3
  clear own3 k0 B0 b3 hz
  simp only [← HN.out]
  go_wp2_with fail
  go_loopw [3, 11] (fun e i wr => ∃ k : Nat, k ≤ n ∧ i = .int .i64 k ∧ e = .int .i64 (oE (lastK s k)) ∧ Best s (lastK s k) w.heap.size wr ∧ StC s p w.heap.size wr ∧ Below w.heap.size w wr) (fun _ i _ => n - (intOf i).toNat)
  case atStart => exact ⟨0, by omega, rfl, rfl, k3, hF, B3⟩
  case round =>
    obtain ⟨k, hk, rfl, rfl, kr, hC, Br⟩ := hrel
    have KR := Lib.hid kr
    have HC := Lib.hid hC
    have BR := Lib.hid Br
    clear k3 hF B3
    by_cases hlt : k < n
    · obtain ⟨g, hp, hBg, hgl, hc⟩ := hC k (by have := HN.out; omega)
      have hR := hRec k
      subst hp
      clear kr hC Br
      by_cases h2 : stateS s ((k : Int) + 1) = 2
      · rw [h2] at hc
        have EK := Lib.hid (show oK s (some (k + 1)) = decK (slotS s ((k : Int) + 1)) by show decK (slotS s ((k + 1 : Nat) : Int)) = _; rw [show ((k + 1 : Nat) : Int) = (k : Int) + 1 by omega])
        have EN := Lib.hid (show oN s (some (k + 1)) = decN (slotS s ((k : Int) + 1)) by show decN (slotS s ((k + 1 : Nat) : Int)) = _; rw [show ((k + 1 : Nat) : Int) = (k : Int) + 1 by omega])
        have ED := Lib.hid (show oD s (some (k + 1)) = decD (slotS s ((k : Int) + 1)) by show decD (slotS s ((k + 1 : Nat) : Int)) = _; rw [show ((k + 1 : Nat) : Int) = (k : Int) + 1 by omega])
        have L1 := fun (h : lastK s k = none) => lastK_first h2 h
        have L2 := fun (m : Nat) (h : lastK s k = some m) hn => lastK_elder h2 h hn
        have L3 := fun (m : Nat) (h : lastK s k = some m) hn => lastK_newer h2 h hn
        generalize decK (slotS s ((k : Int) + 1)) = K at *
        generalize decN (slotS s ((k : Int) + 1)) = N at *
        generalize decD (slotS s ((k : Int) + 1)) = D at *
        generalize decE (slotS s ((k : Int) + 1)) = E at *
        have HL1 := Lib.hid L1
        have HL2 := Lib.hid L2
        have HL3 := Lib.hid L3
        clear L1 L2 L3
        cases ho : lastK s k with
        | none =>
          rw [ho] at KR
          have hE : oE none = 10 := rfl
          have HO := Lib.hid (HL1.out ho)
          clear ho
          clear h2
          go_wp2_with (with_reducible refine (hR _).mono ?_)
          rintro e1 w4 ⟨rfl, b4⟩
          have b5 : Below w4.heap.size w4 (w4.alloc (.cells #[.int .i64 (K : Int), .int .u64 (N : Int), .int .u64 (D : Int)] 166)) := (Below.refl _ w4).alloc (Nat.le_refl _) _
          have q5 := Blk.new w4 166 #[.int .i64 (K : Int), .int .u64 (N : Int), .int .u64 (D : Int)]
          generalize hW5 : w4.alloc (.cells #[.int .i64 (K : Int), .int .u64 (N : Int), .int .u64 (D : Int)] 166) = W5 at *
          have k4 := Blk.below KR.out b4 KR.out.lt
          have k5 := k4.below b5 k4.lt
          have KC := Lib.hid (StC.below (StC.below HC.out b4) b5)
          have B5 := Lib.hid (bthen (bthen BR.out b4) b5)
          have r0 := k5.cell 0
          have r1 := k5.cell 1
          have r2 := k5.cell 2
          have f0 := k5.frozen 0
          have f1 := k5.frozen 1
          have f2 := k5.frozen 2
          have t0 := q5.cell 0
          have t1 := q5.cell 1
          have t2 := q5.cell 2
          simp at r0 r1 r2 t0 t1 t2
          have K5 := Lib.hid k5
          clear b4 b5 q5 k4 k5 HC BR hR
          go_wp2_with fail
          have g := dec_sets K5.out (.int .i64 (K : Int)) (.int .u64 (N : Int)) (.int .u64 (D : Int))
          have B6 := dec_bel B5.out (.int .i64 (K : Int)) (.int .u64 (N : Int)) (.int .u64 (D : Int))
          have C6 := ((KC.out.set 0 (.int .i64 (K : Int))).set 1 (.int .u64 (N : Int))).set 2 (.int .u64 (D : Int))
          generalize World.setCell (World.setCell (World.setCell W5 _ _) _ _) _ _ = W6 at *
          go_roundw
          case rel => exact ⟨k + 1, by omega, by go_num, by rw [HO.out]; rfl, by rw [HO.out]; unfold Best; rw [EK.out, EN.out, ED.out]; exact g, C6, B6⟩
          case measure => simp [intOf]; omega
        | some m =>
          rw [ho] at KR
          have hE : oE (some m) = 0 := rfl
          have hM : oN s (some m) = decN (slotS s (m : Int)) := rfl
          have HL2m := Lib.hid (HL2.out m ho)
          have HL3m := Lib.hid (HL3.out m ho)
          clear ho
          rw [← hM] at HL2m HL3m
          have KR2 := Lib.hid KR.out
          by_cases hlt2 : N < oN s (some m)
          · have d2 : decide ((N : Int) < (oN s (some m) : Int)) = true := by simp; omega
            have HO := Lib.hid (HL2m.out hlt2)
            clear hM
            clear h2
            go_wp2_with (with_reducible refine (hR _).mono ?_)
            rintro e1 w4 ⟨rfl, b4⟩
            have b5 : Below w4.heap.size w4 (w4.alloc (.cells #[.int .i64 (K : Int), .int .u64 (N : Int), .int .u64 (D : Int)] 166)) := (Below.refl _ w4).alloc (Nat.le_refl _) _
            have q5 := Blk.new w4 166 #[.int .i64 (K : Int), .int .u64 (N : Int), .int .u64 (D : Int)]
            generalize hW5 : w4.alloc (.cells #[.int .i64 (K : Int), .int .u64 (N : Int), .int .u64 (D : Int)] 166) = W5 at *
            have k4 := Blk.below KR.out b4 KR.out.lt
            have k5 := k4.below b5 k4.lt
            have KC := Lib.hid (StC.below (StC.below HC.out b4) b5)
            have B5 := Lib.hid (bthen (bthen BR.out b4) b5)
            have r0 := k5.cell 0
            have r1 := k5.cell 1
            have r2 := k5.cell 2
            have f0 := k5.frozen 0
            have f1 := k5.frozen 1
            have f2 := k5.frozen 2
            have t0 := q5.cell 0
            have t1 := q5.cell 1
            have t2 := q5.cell 2
            simp at r0 r1 r2 t0 t1 t2
            have K5 := Lib.hid k5
            clear b4 b5 q5 k4 k5 HC BR hR
            go_wp2_with fail
            go_roundw
            case rel => exact ⟨k + 1, by omega, by go_num, by rw [HO.out]; rfl, by rw [HO.out]; exact K5.out, KC.out, B5.out⟩
            case measure => simp [intOf]; omega
          · have d2 : decide ((N : Int) < (oN s (some m) : Int)) = false := by simp; omega
            have HO := Lib.hid (HL3m.out hlt2)
            clear hM
            clear h2
            go_wp2_with (with_reducible refine (hR _).mono ?_)
            rintro e1 w4 ⟨rfl, b4⟩
            have b5 : Below w4.heap.size w4 (w4.alloc (.cells #[.int .i64 (K : Int), .int .u64 (N : Int), .int .u64 (D : Int)] 166)) := (Below.refl _ w4).alloc (Nat.le_refl _) _
            have q5 := Blk.new w4 166 #[.int .i64 (K : Int), .int .u64 (N : Int), .int .u64 (D : Int)]
            generalize hW5 : w4.alloc (.cells #[.int .i64 (K : Int), .int .u64 (N : Int), .int .u64 (D : Int)] 166) = W5 at *
            have k4 := Blk.below KR.out b4 KR.out.lt
            have k5 := k4.below b5 k4.lt
            have KC := Lib.hid (StC.below (StC.below HC.out b4) b5)
            have B5 := Lib.hid (bthen (bthen BR.out b4) b5)
            have r0 := k5.cell 0
            have r1 := k5.cell 1
            have r2 := k5.cell 2
            have f0 := k5.frozen 0
            have f1 := k5.frozen 1
            have f2 := k5.frozen 2
            have t0 := q5.cell 0
            have t1 := q5.cell 1
            have t2 := q5.cell 2
            simp at r0 r1 r2 t0 t1 t2
            have K5 := Lib.hid k5
            clear b4 b5 q5 k4 k5 HC BR hR
            go_wp2_with fail
            have g := dec_sets K5.out (.int .i64 (K : Int)) (.int .u64 (N : Int)) (.int .u64 (D : Int))
            have B6 := dec_bel B5.out (.int .i64 (K : Int)) (.int .u64 (N : Int)) (.int .u64 (D : Int))
            have C6 := ((KC.out.set 0 (.int .i64 (K : Int))).set 1 (.int .u64 (N : Int))).set 2 (.int .u64 (D : Int))
            generalize World.setCell (World.setCell (World.setCell W5 _ _) _ _) _ _ = W6 at *
            go_roundw
            case rel => exact ⟨k + 1, by omega, by go_num, by rw [HO.out]; rfl, by rw [HO.out]; unfold Best; rw [EK.out, EN.out, ED.out]; exact g, C6, B6⟩
            case measure => simp [intOf]; omega
      · have n2 : (stateS s ((k : Int) + 1) != 2) = true := by simpa using h2
        have HO := Lib.hid (lastK_skip h2)
        clear h2
        go_wp2_with fail
        go_roundw
        case rel => exact ⟨k + 1, by omega, by go_num, by rw [HO.out], by rw [HO.out]; exact KR.out, HC.out, BR.out⟩
        case measure => simp [intOf]; omega
    · obtain rfl : k = n := by omega
      clear kr hC Br
      have d1 : decide ((k : Int) < (k : Int)) = false := by simp
      have r0 := KR.out.cell 0
      have r1 := KR.out.cell 1
      have r2 := KR.out.cell 2
      have f0 := KR.out.frozen 0
      have f1 := KR.out.frozen 1
      have f2 := KR.out.frozen 2
      simp at r0 r1 r2
      go_wp2_with fail
      rw [Exit.noGoto_ret]
      have g := dec_sets KR.out (.int .i64 (oK s (lastK s k) : Nat)) (.int .u64 (oN s (lastK s k) : Nat)) (.int .u64 (oD s (lastK s k) : Nat))
      have B4 := dec_bel BR.out (.int .i64 (oK s (lastK s k) : Nat)) (.int .u64 (oN s (lastK s k) : Nat)) (.int .u64 (oD s (lastK s k) : Nat))
      generalize World.setCell (World.setCell (World.setCell wr _ _) _ _) _ _ = W3 at *
      have s0 := g.cell 0
      have s1 := g.cell 1
      have s2 := g.cell 2
      simp at s0 s1 s2
      exact bodyPost_ret (v := .tuple #[.agg #[.int .i64 (oK s (lastK s k) : Nat), .int .u64 (oN s (lastK s k) : Nat), .int .u64 (oD s (lastK s k) : Nat)], .int .i64 (oE (lastK s k))]) (by simp [results, Tryz.results98, go_sem, s0, s1, s2]) rfl ⟨rfl, B4⟩
end Go.Proofs.YtebkeocpojlepaaGreatDoor

/- clear.And, clear.Torn: contracts over opaque functions of texts, and the plain laws of these functions. -/
namespace Go.Proofs.YtebkeocpojlepaaGreatDoor
open Go.RowKit Go.Shelf
attribute [local go_sem] Oper.semAt_some
set_option linter.unusedVariables false
set_option linter.unusedSimpArgs false

theorem outL_get {n : Nat} (g : Fin n → UInt8) (k : Nat) (hk : k ≤ n) (i : Nat) (hi : i < n) : (outL g (ups n k))[i]? = some (if i < k then g ⟨i, hi⟩ else 0) := by
  induction k with
  | zero => simp [ups, outL, hi]
  | succ k ih =>
    rw [ups_succ n k hk, outL_snoc]
    by_cases e : k = i
    · subst e
      rw [List.getElem?_set_self (by rw [outL_length]; exact hi)]
      simp
    · rw [List.getElem?_set_ne (by exact e), ih (by omega)]
      congr 1
      by_cases h : i < k
      · simp [h, show i < k + 1 by omega]
      · simp [h, show ¬ i < k + 1 by omega]

def andB (old a : ByteArray) : ByteArray := ⟨(outL (andF old a) (ups old.size old.size)).toArray⟩
def tornB (old a b : ByteArray) : ByteArray := ⟨(outL (tornF old a b) (ups old.size old.size)).toArray⟩

theorem out_size {n : Nat} (g : Fin n → UInt8) : (⟨(outL g (ups n n)).toArray⟩ : ByteArray).size = n := by
  show (outL g (ups n n)).toArray.size = n
  rw [List.size_toArray, outL_length]
theorem out_byte {n : Nat} (g : Fin n → UInt8) (d : UInt8) (j : Nat) (h : j < n) : byteOr ⟨(outL g (ups n n)).toArray⟩ d j = g ⟨j, h⟩ := by
  unfold byteOr
  simp only [List.getD_eq_getElem?_getD]
  rw [outL_get g n (Nat.le_refl _) j h, if_pos h]
  rfl
theorem andB_size (old a : ByteArray) : (andB old a).size = old.size := out_size _
theorem tornB_size (old a b : ByteArray) : (tornB old a b).size = old.size := out_size _
theorem andB_byte (old a : ByteArray) (d : UInt8) (j : Nat) (h : j < old.size) : byteOr (andB old a) d j = (byteOr old 0 j &&& byteOr a 255 j) := out_byte _ d j h
theorem tornB_byte (old a b : ByteArray) (d : UInt8) (j : Nat) (h : j < old.size) : byteOr (tornB old a b) d j = (byteOr old 0 j &&& ~~~(byteOr old 0 j &&& ~~~(byteOr a 255 j) &&& byteOr b 0 j)) := out_byte _ d j h

/-- two texts are one if they have the same bytes -/
theorem bytes_eq {s t : ByteArray} (h : s.size = t.size) (hb : ∀ j, j < s.size → byteOr s 0 j = byteOr t 0 j) : s = t := by
  apply ByteArray.ext
  apply Array.ext
  · exact h
  · intro i h1 h2
    have := hb i h1
    rw [byteOr_lt _ _ _ h1, byteOr_lt _ _ _ (h ▸ h1)] at this
    exact this
theorem byteOr_any {s : ByteArray} {j : Nat} (h : j < s.size) (d e : UInt8) : byteOr s d j = byteOr s e j := by rw [byteOr_lt _ _ _ h, byteOr_lt _ _ _ h]
theorem byteOr_empty (d : UInt8) (j : Nat) : byteOr ⟨#[]⟩ d j = d := byteOr_ge _ _ _ (Nat.zero_le _)

theorem And_any (old a : ByteArray) (hso : old.size ≤ 140737488355328) (hsa : a.size ≤ maxLen) (w : World) :
    Calls Tryz.prog 139 #[.string old, .string a] w fun e w' => e = .returned (.string (andB old a)) ∧ Below w.heap.size w w' := callsIn_wide.1 (And_in 5 (by omega) old a hso hsa w)
theorem Torn_any (old a b : ByteArray) (hso : old.size ≤ 140737488355328) (hsa : a.size ≤ maxLen) (hsb : b.size ≤ maxLen) (w : World) :
    Calls Tryz.prog 121 #[.string old, .string a, .string b] w fun e w' => e = .returned (.string (tornB old a b)) ∧ Below w.heap.size w w' := callsIn_wide.1 (Torn_in 5 (by omega) old a b hso hsa hsb w)

theorem u8_ext {x y : UInt8} (h : ∀ i, i < 8 → x.toBitVec.getLsbD i = y.toBitVec.getLsbD i) : x = y := UInt8.eq_of_toBitVec_eq (BitVec.eq_of_getLsbD_eq h)
theorem law_none (o w : UInt8) : o &&& ~~~(o &&& ~~~w &&& 0) = o := by apply u8_ext; intro i hi; simp
theorem law_all (o w : UInt8) : o &&& ~~~(o &&& ~~~w &&& 255) = o &&& w := by
  apply u8_ext; intro i hi
  have h : (255 : UInt8).toBitVec.getLsbD i = true := by revert i; decide
  simp only [UInt8.toBitVec_and, UInt8.toBitVec_not, BitVec.getLsbD_and, BitVec.getLsbD_not, h, hi, decide_true, Bool.true_and]
  cases o.toBitVec.getLsbD i <;> cases w.toBitVec.getLsbD i <;> rfl
theorem law_again (o w : UInt8) : o &&& w &&& w = o &&& w := by
  apply u8_ext; intro i hi
  simp only [UInt8.toBitVec_and, BitVec.getLsbD_and]
  cases o.toBitVec.getLsbD i <;> cases w.toBitVec.getLsbD i <;> rfl
theorem law_255 (o : UInt8) : o &&& 255 = o := by
  apply u8_ext; intro i hi
  have h : (255 : UInt8).toBitVec.getLsbD i = true := by revert i; decide
  simp only [UInt8.toBitVec_and, BitVec.getLsbD_and, h, Bool.and_true]
theorem law_n255 (o : UInt8) : o &&& ~~~255 = 0 := by
  rw [show (~~~255 : UInt8) = 0 from rfl]; simp
theorem law_self (o : UInt8) : o &&& ~~~o = 0 := by simp
theorem law_twice (o w a b : UInt8) : (o &&& ~~~(o &&& ~~~w &&& a)) &&& ~~~((o &&& ~~~(o &&& ~~~w &&& a)) &&& ~~~w &&& b) = o &&& ~~~(o &&& ~~~w &&& (a ||| b)) := by
  apply u8_ext; intro i hi
  simp only [UInt8.toBitVec_and, UInt8.toBitVec_or, UInt8.toBitVec_not, BitVec.getLsbD_and, BitVec.getLsbD_or, BitVec.getLsbD_not, hi, decide_true, Bool.true_and]
  cases o.toBitVec.getLsbD i <;> cases w.toBitVec.getLsbD i <;> cases a.toBitVec.getLsbD i <;> cases b.toBitVec.getLsbD i <;> rfl
theorem law_may1 (o w m : UInt8) : (o &&& ~~~(o &&& ~~~w &&& m)) &&& ~~~o = 0 := by
  apply u8_ext; intro i hi
  simp only [UInt8.toBitVec_and, UInt8.toBitVec_or, UInt8.toBitVec_not, BitVec.getLsbD_and, BitVec.getLsbD_or, BitVec.getLsbD_not, hi, decide_true, Bool.true_and]
  cases o.toBitVec.getLsbD i <;> cases w.toBitVec.getLsbD i <;> cases m.toBitVec.getLsbD i <;> simp
theorem law_may2 (o w m : UInt8) : o &&& w &&& ~~~(o &&& ~~~(o &&& ~~~w &&& m)) = 0 := by
  apply u8_ext; intro i hi
  simp only [UInt8.toBitVec_and, UInt8.toBitVec_or, UInt8.toBitVec_not, BitVec.getLsbD_and, BitVec.getLsbD_or, BitVec.getLsbD_not, hi, decide_true, Bool.true_and]
  cases o.toBitVec.getLsbD i <;> cases w.toBitVec.getLsbD i <;> cases m.toBitVec.getLsbD i <;> simp
theorem law_may3 (o w g : UInt8) (h1 : g &&& ~~~o = 0) (h2 : o &&& w &&& ~~~g = 0) : o &&& ~~~(o &&& ~~~w &&& (o &&& ~~~g)) = g := by
  apply u8_ext; intro i hi
  have e1 := congrArg (fun x : UInt8 => x.toBitVec.getLsbD i) h1
  have e2 := congrArg (fun x : UInt8 => x.toBitVec.getLsbD i) h2
  revert e1 e2
  simp only [UInt8.toBitVec_and, UInt8.toBitVec_or, UInt8.toBitVec_not, BitVec.getLsbD_and, BitVec.getLsbD_or, BitVec.getLsbD_not, hi, decide_true, Bool.true_and]
  cases o.toBitVec.getLsbD i <;> cases w.toBitVec.getLsbD i <;> cases g.toBitVec.getLsbD i <;> simp
theorem law_went (o w m : UInt8) : o &&& ~~~(o &&& ~~~(o &&& ~~~w &&& m)) = o &&& ~~~w &&& m := by
  apply u8_ext; intro i hi
  simp only [UInt8.toBitVec_and, UInt8.toBitVec_or, UInt8.toBitVec_not, BitVec.getLsbD_and, BitVec.getLsbD_or, BitVec.getLsbD_not, hi, decide_true, Bool.true_and]
  cases o.toBitVec.getLsbD i <;> cases w.toBitVec.getLsbD i <;> cases m.toBitVec.getLsbD i <;> rfl

end Go.Proofs.YtebkeocpojlepaaGreatDoor

/- Plain laws: the last record of a bank in which one place turns (the parts of ScanL, ScanP that hold no walk). -/
namespace Go.Proofs.YtebkeocpojlepaaGreatDoor
set_option linter.unusedVariables false
set_option linter.unusedSimpArgs false

theorem lastK_none {s : ByteArray} {n : Nat} (h : lastK s n = none) : ∀ j : Nat, j < n → stateS s ((j : Int) + 1) ≠ 2 := by
  induction n with
  | zero => intro j hj; omega
  | succ n ih =>
    intro j hj h2
    by_cases h2' : stateS s ((n : Int) + 1) = 2
    · cases ho : lastK s n with
      | none => rw [lastK_first h2' ho] at h; cases h
      | some m =>
        by_cases hn : decN (slotS s ((n : Int) + 1)) < decN (slotS s (m : Int))
        · rw [lastK_elder h2' ho hn] at h; cases h
        · rw [lastK_newer h2' ho hn] at h; cases h
    · rw [lastK_skip h2'] at h
      by_cases hjn : j = n
      · subst hjn; exact h2' h2
      · exact ih h j (by omega) h2
theorem lastK_some {s : ByteArray} {n m : Nat} (h : lastK s n = some m) :
    1 ≤ m ∧ m ≤ n ∧ stateS s (m : Int) = 2 ∧ ∀ j : Nat, j < n → stateS s ((j : Int) + 1) = 2 → decN (slotS s ((j : Int) + 1)) ≤ decN (slotS s (m : Int)) := by
  induction n generalizing m with
  | zero => cases h
  | succ n ih =>
    by_cases h2' : stateS s ((n : Int) + 1) = 2
    · cases ho : lastK s n with
      | none =>
        rw [lastK_first h2' ho] at h
        cases h
        refine ⟨by omega, by omega, by rw [show ((n + 1 : Nat) : Int) = (n : Int) + 1 by omega]; exact h2', fun j hj h2 => ?_⟩
        by_cases hjn : j = n
        · subst hjn; rw [show ((j + 1 : Nat) : Int) = (j : Int) + 1 by omega]; exact Nat.le_refl _
        · exact absurd h2 (lastK_none ho j (by omega))
      | some q =>
        obtain ⟨i1, i2, i3, i4⟩ := ih ho
        by_cases hn : decN (slotS s ((n : Int) + 1)) < decN (slotS s (q : Int))
        · rw [lastK_elder h2' ho hn] at h
          cases h
          refine ⟨i1, by omega, i3, fun j hj h2 => ?_⟩
          by_cases hjn : j = n
          · subst hjn; omega
          · exact i4 j (by omega) h2
        · rw [lastK_newer h2' ho hn] at h
          cases h
          refine ⟨by omega, by omega, by rw [show ((n + 1 : Nat) : Int) = (n : Int) + 1 by omega]; exact h2', fun j hj h2 => ?_⟩
          rw [show ((n + 1 : Nat) : Int) = (n : Int) + 1 by omega]
          by_cases hjn : j = n
          · subst hjn; exact Nat.le_refl _
          · have := i4 j (by omega) h2; omega
    · rw [lastK_skip h2'] at h
      obtain ⟨i1, i2, i3, i4⟩ := ih h
      refine ⟨i1, by omega, i3, fun j hj h2 => ?_⟩
      by_cases hjn : j = n
      · subst hjn; exact absurd h2 h2'
      · exact i4 j (by omega) h2
theorem lastK_congr {s t : ByteArray} {q : Nat} (h : ∀ j : Nat, 1 ≤ j → j ≤ q → slotS t (j : Int) = slotS s (j : Int)) : lastK t q = lastK s q := by
  induction q with
  | zero => rfl
  | succ q ih =>
    have ih' := ih (fun j h1 h2 => h j h1 (by omega))
    have e := h (q + 1) (by omega) (Nat.le_refl _)
    rw [show ((q + 1 : Nat) : Int) = (q : Int) + 1 by omega] at e
    have es : stateS t ((q : Int) + 1) = stateS s ((q : Int) + 1) := by unfold stateS; rw [e]
    by_cases h2 : stateS s ((q : Int) + 1) = 2
    · cases ho : lastK s q with
      | none => rw [lastK_first (es.trans h2) (ih'.trans ho), lastK_first h2 ho]
      | some m =>
        obtain ⟨i1, i2, _, _⟩ := lastK_some ho
        have em := h m i1 (by omega)
        by_cases hn : decN (slotS s ((q : Int) + 1)) < decN (slotS s (m : Int))
        · rw [lastK_elder (es.trans h2) (ih'.trans ho) (by rw [e, em]; exact hn), lastK_elder h2 ho hn]
        · rw [lastK_newer (es.trans h2) (ih'.trans ho) (by rw [e, em]; exact hn), lastK_newer h2 ho hn]
    · rw [lastK_skip (by rw [es]; exact h2), lastK_skip h2, ih']
theorem lastK_tail {s : ByteArray} {a n : Nat} (ha : a ≤ n) (h : ∀ j : Nat, a ≤ j → j < n → stateS s ((j : Int) + 1) ≠ 2) : lastK s n = lastK s a := by
  induction n with
  | zero => obtain rfl : a = 0 := by omega
            rfl
  | succ n ih =>
    by_cases hn : a = n + 1
    · rw [hn]
    · rw [lastK_skip (h n (by omega) (by omega)), ih (by omega) (fun j h1 h2 => h j h1 (by omega))]
theorem free_of {s : ByteArray} {a n : Nat} (ha : a ≤ n) (hz : ∀ j : Nat, a < j → j ≤ n → stateS s (j : Int) = 0) (hs : 0 < a → stateS s (a : Int) ≠ 0) : free s n = n - a := by
  have l := free_le s n
  rcases Nat.lt_trichotomy (n - free s n) a with h | h | h
  · exact absurd (free_zero s n a h ha) (hs (by omega))
  · omega
  · exact absurd (hz _ h (by omega)) (free_stop s n _ rfl (by omega))

/-- t is s, but at the place k it holds X -/
structure Swap (s t X : ByteArray) (k m : Nat) : Prop where
  ns : placeN s = m + 1
  nt : placeN t = m + 1
  size : t.size = s.size
  at' : slotS t (k : Int) = X
  other : ∀ j : Nat, j ≤ m → j ≠ k → slotS t (j : Int) = slotS s (j : Int)
theorem next_zero {s : ByteArray} {k m : Nat} (hN : placeN s = m + 1) (hk : nextS s = (k : Int)) (hk1 : 1 ≤ k) : k ≤ m ∧ ∀ j : Nat, k ≤ j → j ≤ m → stateS s (j : Int) = 0 := by
  unfold nextS at hk
  rw [hN, show m + 1 - 1 = m by omega] at hk
  have l := free_le s m
  split at hk
  · omega
  · exact ⟨by omega, fun j h1 h2 => free_zero s m j (by omega) h2⟩
theorem swap_lastK {s t X : ByteArray} {q m : Nat} (h : Swap s t X (q + 1) m) (hk : nextS s = ((q + 1 : Nat) : Int)) : lastK t m = lastK t (q + 1) ∧ lastK t q = lastK s q ∧ lastK s m = lastK s q := by
  obtain ⟨hkm, hz⟩ := next_zero h.ns hk (by omega)
  refine ⟨lastK_tail (by omega) (fun j h1 h2 => ?_), lastK_congr (fun j h1 h2 => h.other j (by omega) (by omega)), lastK_tail (by omega) (fun j h1 h2 => ?_)⟩
  · have := hz (j + 1) (by omega) (by omega)
    have e := h.other (j + 1) (by omega) (by omega)
    rw [show ((j + 1 : Nat) : Int) = (j : Int) + 1 by omega] at this e
    unfold stateS at this ⊢
    rw [e, this]; decide
  · have := hz (j + 1) (by omega) (by omega)
    rw [show ((j + 1 : Nat) : Int) = (j : Int) + 1 by omega] at this
    rw [this]; decide
theorem swap_dirt {s t X : ByteArray} {k m : Nat} (h : Swap s t X k m) (hk1 : 1 ≤ k) (hk : nextS s = (k : Int)) (hc : stateP (k : Int) X ≠ 2) : lastV t = lastV s := by
  obtain ⟨q, rfl⟩ : ∃ q, k = q + 1 := ⟨k - 1, by omega⟩
  obtain ⟨e1, e2, e3⟩ := swap_lastK h hk
  obtain ⟨hkm, hz⟩ := next_zero h.ns hk (by omega)
  have ha := h.at'
  rw [show ((q + 1 : Nat) : Int) = (q : Int) + 1 by omega] at ha hc
  have e4 : lastK t (q + 1) = lastK t q := lastK_skip (by unfold stateS; rw [ha]; exact hc)
  have el : lastS t = lastS s := by unfold lastS; rw [h.nt, h.ns, show m + 1 - 1 = m by omega, e1, e4, e2, e3]
  unfold lastV
  rw [el]
  cases ho : lastS s with
  | none => rfl
  | some x =>
    have hx : lastK s q = some x := by rw [← e3, ← ho]; unfold lastS; rw [h.ns]; rfl
    obtain ⟨i1, i2, _, _⟩ := lastK_some hx
    have es := h.other x (by omega) (by omega)
    show Value.tuple #[.agg #[.int .i64 (decK (slotS t (x : Int)) : Nat), .int .u64 (decN (slotS t (x : Int)) : Nat), .int .u64 (decD (slotS t (x : Int)) : Nat)], .int .i64 0] = .tuple #[.agg #[.int .i64 (decK (slotS s (x : Int)) : Nat), .int .u64 (decN (slotS s (x : Int)) : Nat), .int .u64 (decD (slotS s (x : Int)) : Nat)], .int .i64 0]
    rw [es]
theorem swap_new {s t X : ByteArray} {k m : Nat} (h : Swap s t X k m) (hk1 : 1 ≤ k) (hk : nextS s = (k : Int)) (hc : stateP (k : Int) X = 2) (hn : oE (lastS s) = 0 → oN s (lastS s) ≤ decN X) :
    lastV t = .tuple #[.agg #[.int .i64 (decK X : Nat), .int .u64 (decN X : Nat), .int .u64 (decD X : Nat)], .int .i64 0] := by
  obtain ⟨q, rfl⟩ : ∃ q, k = q + 1 := ⟨k - 1, by omega⟩
  obtain ⟨e1, e2, e3⟩ := swap_lastK h hk
  obtain ⟨hkm, hz⟩ := next_zero h.ns hk (by omega)
  have ha := h.at'
  have hx : lastS s = lastK s q := by rw [← e3]; unfold lastS; rw [h.ns]; rfl
  rw [hx] at hn
  have ha' := ha
  rw [show ((q + 1 : Nat) : Int) = (q : Int) + 1 by omega] at ha' hc
  have h2 : stateS t ((q : Int) + 1) = 2 := by unfold stateS; rw [ha']; exact hc
  have e4 : lastK t (q + 1) = some (q + 1) := by
    cases ho : lastK s q with
    | none => exact lastK_first h2 (e2.trans ho)
    | some x =>
      obtain ⟨i1, i2, _, _⟩ := lastK_some ho
      refine lastK_newer h2 (e2.trans ho) ?_
      rw [ha', h.other x (by omega) (by omega)]
      rw [ho] at hn
      have := hn rfl
      rw [show oN s (some x) = decN (slotS s (x : Int)) from rfl] at this
      omega
  have el : lastS t = some (q + 1) := by unfold lastS; rw [h.nt, show m + 1 - 1 = m by omega, e1, e4]
  unfold lastV
  rw [el]
  show Value.tuple #[.agg #[.int .i64 (decK (slotS t ((q + 1 : Nat) : Int)) : Nat), .int .u64 (decN (slotS t ((q + 1 : Nat) : Int)) : Nat), .int .u64 (decD (slotS t ((q + 1 : Nat) : Int)) : Nat)], .int .i64 0] = _
  rw [ha]
end Go.Proofs.YtebkeocpojlepaaGreatDoor
