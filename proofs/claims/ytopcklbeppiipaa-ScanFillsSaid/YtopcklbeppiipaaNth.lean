/- bank.nth at texts, over places; bank.Slot. -/
import Derived.Test.YtopcklbeppiipaaPlaces
namespace Go.Proofs.Ytopcklbeppiipaa
open Go.RowKit Go.Shelf
attribute [local go_sem] Oper.semAt_some
set_option linter.unusedVariables false

theorem mem_ups (n : Nat) (j : Fin n) : j ∈ ups n n := by
  unfold ups; rw [List.take_of_length_le (by simp)]; exact List.mem_finRange j
/-- the place of a number, empty if there is none -/
def slotS (s : ByteArray) (i : Int) : ByteArray := if 0 ≤ i ∧ i < (placeN s : Int) then place s i.toNat else ⟨#[]⟩

set_option maxRecDepth 100000 in
set_option maxHeartbeats 2000000 in
theorem nth_in (n : Nat) (hn : 4 ≤ n) (s : ByteArray) (i : Int) (hs : s.size ≤ maxLen) (w : World) (B : Nat) (hB : B < w.heap.size) (hc : w.cell? ⟨B, 0, none⟩ = some (.string s)) :
    CallsIn Fence.wide n Try.prog 38 #[.func (.func 39) #[] #[.pointer (some ⟨B, 0, none⟩)], .int .i64 i] w fun e w' =>
      e = .returned (.string (slotS s i)) ∧ Below w.heap.size w w' := by
  have h1 : 1 ≤ n := by omega
  refine callsIn_of_wp_marks Try.func38 rfl trivial ?_ rfl
  simp only [Try.ntmps38, List.size_toArray, List.length_cons, List.length_nil, Nat.reduceAdd, Nat.reduceSub, Array.replicate_succ, Array.replicate_zero, List.push_toArray, List.append_toArray, List.nil_append, List.cons_append]
  gi_wp2
  have b0 := (Blk.new w 3 #[.int .i64 i]).alloc (.cells #[.string ⟨#[]⟩] 9)
  have b1 := Blk.new (w.alloc (.cells #[.int .i64 i] 3)) 9 #[.string ⟨#[]⟩]
  have hB2 : Below w.heap.size w ((w.alloc (.cells #[.int .i64 i] 3)).alloc (.cells #[.string ⟨#[]⟩] 9)) := ((Below.refl _ w).alloc (Nat.le_refl _) _).alloc (by simp) _
  have hsz : ((w.alloc (.cells #[.int .i64 i] 3)).alloc (.cells #[.string ⟨#[]⟩] 9)).heap.size = w.heap.size + 2 := by simp
  rw [World.size_alloc] at b1
  have cB := (hB2.cell (p := ⟨B, 0, none⟩) hB).trans hc
  generalize (w.alloc (.cells #[.int .i64 i] 3)).alloc (.cells #[.string ⟨#[]⟩] 9) = W0 at *
  refine wpIn_rangeFunc_ownH rfl h1 (gf := 39) (lb := #[.pointer (some ⟨B, 0, none⟩)]) rfl trivial (enters_of Try.func39 (by kernel_rfl) rfl)
    (places_stops (n - 1) (by omega) B B (B + 1) s W0 hs (by omega) (by omega) cB)
    (fun h k => Mid.trans h k) (midK_b (by omega)) (Below.refl _ _) (fun _ => rfl)
    (fun pre W => ((Blk W w.heap.size 3 #[.int .i64 i] ∧ Blk W (w.heap.size + 1) 9 #[.string ⟨#[]⟩]) ∧ (∀ j ∈ pre, (j.1 : Int) ≠ i)) ∧ (Below w.heap.size w W ∧ w.heap.size + 2 ≤ W.heap.size))
    (fun c pre W => ((Blk W w.heap.size 3 #[.int .i64 i] ∧ Blk W (w.heap.size + 1) 9 #[.string (slotS s i)]) ∧ c = .ret) ∧ (Below w.heap.size w W ∧ w.heap.size + 2 ≤ W.heap.size))
    (OwnFrom.and (OwnFrom.and (OwnFrom.and (Own.from (blk_own _ _ _) _) (Own.from (blk_own _ _ _) _)) (ownFrom_pure _ _)) (OwnFrom.and (ownFrom_below (Nat.le_refl _) (by omega)) (fun _ _ _ _ hs hg _ => Nat.le_trans hs hg.size)))
    (fun c => OwnFrom.and (OwnFrom.and (OwnFrom.and (Own.from (blk_own _ _ _) _) (Own.from (blk_own _ _ _) _)) (ownFrom_pure _ _)) (OwnFrom.and (ownFrom_below (Nat.le_refl _) (by omega)) (fun _ _ _ _ hs hg _ => Nat.le_trans hs hg.size)))
    ⟨⟨⟨b0, b1⟩, fun j hj => by cases hj⟩, hB2, by omega⟩
    (fun x a' W => a' = { tmps := #[.func (.func 39) #[] #[.pointer (some ⟨B, 0, none⟩)], .int .i64 i, undef, .pointer (some ⟨w.heap.size, 0, none⟩), .pointer (some ⟨w.heap.size + 1, 0, none⟩), .int .i64 (x.1 : Int), .string (place s x.1), .func (.func 39) #[] #[.pointer (some ⟨B, 0, none⟩)], .int .i64 (x.1 : Int), .string (place s x.1), undef, undef, undef, undef, undef], defers := [] })
    (fun x a' _ X Y row hs hg hr => hs)
    ?assign ?body ?done ?stop
  case assign =>
    rintro l pre x W K ⟨⟨⟨bI, bX⟩, hall⟩, hB1, hW2⟩ hK
    gi_wp2
    exact hK _ _ ((KeepsOthers.refl W).from _) (Mid.refl _ _ W) ⟨⟨⟨bI, bX⟩, hall⟩, hB1, hW2⟩ rfl
  case body =>
    rintro l pre x a' W hl ⟨r, hr⟩ ⟨⟨⟨bI, bX⟩, hall⟩, hB1, hW2⟩ rfl hlt
    have cI := bI.cell 0
    have cX := bX.cell 0
    have fX := bX.frozen 0
    by_cases hx : (x.1 : Int) = i
    · have hq : ((x.1 : Int) == i) = true := by simpa using hx
      have hsl : slotS s i = place s x.1 := by
        have := x.2
        unfold slotS; rw [if_pos (by omega)]
        congr 1; omega
      have HX := Lib.hid hsl
      clear hx hsl
      gi_wp2
      exact ⟨(KeepsOthers.setCell _ _ _).from _, ⟨⟨⟨bI.other _ (by simp) _, by rw [HX.out]; exact bX.set 0 (.string (place s x.1))⟩, rfl⟩, hB1.setCell (p := ⟨w.heap.size + 1, 0, none⟩) (by simp) _, by rw [World.size_setCell]; exact hW2⟩⟩
    · have hq : ((x.1 : Int) == i) = false := by simpa using hx
      gi_wp2
      exact ⟨(KeepsOthers.refl W).from _, Mid.refl _ _ _, ⟨⟨⟨bI, bX⟩, fun j hj => by
        rcases List.mem_append.1 hj with h | h
        · exact hall j h
        · rw [List.mem_singleton.1 h]; exact hx⟩, hB1, hW2⟩⟩
  case done =>
    rintro D zs W hD rfl ⟨⟨⟨bI, bX⟩, hall⟩, hB1, hW2⟩ hK
    have hsl : slotS s i = ⟨#[]⟩ := by
      unfold slotS
      rw [if_neg]
      rintro ⟨g1, g2⟩
      exact hall ⟨i.toNat, by omega⟩ (mem_ups _ _) (by show ((i.toNat : Nat) : Int) = i; omega)
    have HSL := Lib.hid hsl
    clear hsl
    have cX := bX.cell 0
    have fX := bX.frozen 0
    gi_wp2
    have bX2 := bX.set 0 (.string ⟨#[]⟩)
    have hK' := (KeepsOthers.setCell W ⟨w.heap.size + 1, 0, none⟩ (.string ⟨#[]⟩)).same D _ hK rfl
    have bX3 := blk_own (w.heap.size + 1) 9 (fun (_ : Unit) => #[.string ⟨#[]⟩]) () _ _ _ bX2 (grownBy_putObj' _ D (.deferred none)) (fun r e => by cases e; exact ⟨_, hK', rfl⟩)
    have hc5 := bX3.cell 0
    refine ⟨by simp, .inl ⟨_, _, rfl, run_takeDeferred hK', ?_⟩⟩
    refine ⟨.string ⟨#[]⟩, ?_, by rw [HSL.out], ?_⟩
    · simp [results, Try.f38, go_sem, hc5]
    · exact (hB1.setCell (p := ⟨w.heap.size + 1, 0, none⟩) (by simp) _).trans (belowK_b (w := w) (Nat.le_refl _) _ D _ _ (by omega) hK' rfl rfl)
  case stop =>
    rintro D c pre W hD hSp ⟨⟨⟨bI, bX⟩, rfl⟩, hB1, hW2⟩ hK
    have cX := bX.cell 0
    gi_wp2
    have bX3 := blk_own (w.heap.size + 1) 9 (fun (_ : Unit) => #[.string (slotS s i)]) () _ _ _ bX (grownBy_putObj' _ D (.deferred none)) (fun r e => by cases e; exact ⟨_, hK, rfl⟩)
    have hc5 := bX3.cell 0
    refine ⟨by simp, .inl ⟨_, _, rfl, run_takeDeferred hK, ?_⟩⟩
    refine ⟨.string (slotS s i), ?_, rfl, ?_⟩
    · simp [results, Try.f38, go_sem, hc5]
    · exact hB1.trans (belowK_b (w := w) (Nat.le_refl _) W D _ _ (by omega) hK rfl rfl)

theorem Slot_any (s : ByteArray) (i : Int) (hs : s.size ≤ maxLen) (w : World) :
    Calls Try.prog 26 #[.string s, .int .i64 i] w fun e w' => e = .returned (.string (slotS s i)) ∧ Below w.heap.size w w' := by
  have hp : ∀ w, Calls Try.prog 28 #[.string s] w fun e w' => e = .returned (.func (.func 39) #[] #[.pointer (some ⟨w.heap.size, 0, none⟩)]) ∧ w' = w.alloc (.cells #[.string s] 9) := fun w => callsIn_wide.1 (places_in 5 s w)
  have hn := fun (w : World) (B : Nat) hB hc => callsIn_wide.1 (nth_in 5 (by omega) s i hs w B hB hc)
  go_enter Try.func26, Try.ntmps26
  go_wp2_with (with_reducible refine (hp _).mono ?_; rintro e w1 ⟨rfl, rfl⟩)
  refine (hn _ w.heap.size (by simp) (by rw [(Blk.new w 9 #[.string s]).cell 0]; rfl)).mono ?_
  rintro e w2 ⟨rfl, b2⟩
  have B2 := bthen ((Below.refl _ w).alloc (Nat.le_refl _) _) b2
  go_wp2
  go_ret
  exact ⟨rfl, B2⟩
end Go.Proofs.Ytopcklbeppiipaa
