/- clear.May and clear.Bits. -/
import Derived.Test.YtlkionloiofkhaaClearAnd
namespace Go.Proofs.Ytlkionloiofkhaa
open Go.RowKit Go.Shelf
attribute [local go_sem] Oper.semAt_some
set_option linter.unusedVariables false

theorem mem_ups (n : Nat) (j : Fin n) : j ∈ ups n n := by
  unfold ups; rw [List.take_of_length_le (by simp)]; exact List.mem_finRange j

/-- what may come at one place -/
def okF (old a b : ByteArray) (j : Fin old.size) : Bool := (byteOr b 0 j.1 &&& ~~~(byteOr old 0 j.1) == 0) && (byteOr old 0 j.1 &&& byteOr a 255 j.1 &&& ~~~(byteOr b 0 j.1) == 0)
def mayB (old a b : ByteArray) : Bool := (ups old.size old.size).all (okF old a b) && decide (b.size = old.size)

set_option maxRecDepth 100000 in
set_option maxHeartbeats 2000000 in
theorem May_in (n : Nat) (hn : 4 ≤ n) (old a b : ByteArray) (hso : old.size ≤ 140737488355328) (hsa : a.size ≤ maxLen) (hsb : b.size ≤ maxLen) (w : World) :
    CallsIn Fence.wide n Try.prog 9 #[.string old, .string a, .string b] w fun e w' =>
      e = .returned (.bool (mayB old a b)) ∧ Below w.heap.size w w' := by
  have h1 : 1 ≤ n := by omega
  refine callsIn_of_wp_marks Try.func9 rfl trivial ?_ rfl
  simp only [Try.ntmps9, List.size_toArray, List.length_cons, List.length_nil, Nat.reduceAdd, Nat.reduceSub, Array.replicate_succ, Array.replicate_zero, List.push_toArray, List.append_toArray, List.nil_append, List.cons_append]
  gi_wp2_with (refine ⟨trivial, ?_⟩; refine (places_in (n - 1) old a b 0 _).mono ?_; rintro e w' ⟨rfl, rfl⟩)
  have b0 := Blk.new w 4 #[.bool false]
  have hB0 : Below w.heap.size w (w.alloc (.cells #[.bool false] 4)) := (Below.refl _ w).alloc (Nat.le_refl _) _
  have hsz : (w.alloc (.cells #[.bool false] 4)).heap.size = w.heap.size + 1 := by simp
  generalize (w.alloc (.cells #[.bool false] 4)) = W1 at *
  have c1 := Blk.new W1 9 #[.string old]
  have c2 := Blk.new (W1.alloc (.cells #[.string old] 9)) 9 #[.string a]
  have c3 := Blk.new ((W1.alloc (.cells #[.string old] 9)).alloc (.cells #[.string a] 9)) 9 #[.string b]
  have c4 := Blk.new (((W1.alloc (.cells #[.string old] 9)).alloc (.cells #[.string a] 9)).alloc (.cells #[.string b] 9)) 5 #[.int .u8 0]
  have k1 := ((c1.alloc (.cells #[.string a] 9)).alloc (.cells #[.string b] 9)).alloc (.cells #[.int .u8 0] 5)
  have k2 := (c2.alloc (.cells #[.string b] 9)).alloc (.cells #[.int .u8 0] 5)
  have k3 := c3.alloc (.cells #[.int .u8 0] 5)
  have d0 := (((b0.alloc (.cells #[.string old] 9)).alloc (.cells #[.string a] 9)).alloc (.cells #[.string b] 9)).alloc (.cells #[.int .u8 0] 5)
  simp only [World.size_alloc] at k2 k3 c4
  have hB2 : Below w.heap.size w ((((W1.alloc (.cells #[.string old] 9)).alloc (.cells #[.string a] 9)).alloc (.cells #[.string b] 9)).alloc (.cells #[.int .u8 0] 5)) := (((hB0.alloc hB0.size _).alloc (by simp; omega) _).alloc (by simp; omega) _).alloc (by simp; omega) _
  have hsz2 : ((((W1.alloc (.cells #[.string old] 9)).alloc (.cells #[.string a] 9)).alloc (.cells #[.string b] 9)).alloc (.cells #[.int .u8 0] 5)).heap.size = W1.heap.size + 4 := by simp
  generalize ((((W1.alloc (.cells #[.string old] 9)).alloc (.cells #[.string a] 9)).alloc (.cells #[.string b] 9)).alloc (.cells #[.int .u8 0] 5)) = W0 at *
  clear c1 c2 c3 b0 hB0
  rw [hsz] at k1 k2 k3 c4 hsz2
  have e1 : W0.heap.size = w.heap.size + 5 := by omega
  refine wpIn_rangeFunc_ownH rfl h1 (gf := 15) (lb := #[.pointer (some ⟨w.heap.size + 1, 0, none⟩), .pointer (some ⟨w.heap.size + 1 + 1 + 1 + 1, 0, none⟩), .pointer (some ⟨w.heap.size + 1 + 1, 0, none⟩), .pointer (some ⟨w.heap.size + 1 + 1 + 1, 0, none⟩)]) rfl trivial (enters_of Try.func15 (by kernel_rfl) rfl)
    (places_stops (n - 1) (by omega) (w.heap.size + 1) (w.heap.size + 1 + 1) (w.heap.size + 1 + 1 + 1) (w.heap.size + 1 + 1 + 1 + 1) (w.heap.size + 1) (w.heap.size + 5) old a b 0 W0 (by unfold maxLen; omega) hsa hsb (by omega) (by omega) (by omega) (by omega) (by omega) (k1.cell 0) (k2.cell 0) (k3.cell 0) (c4.cell 0))
    (fun h k => Mid.trans h k) (midK_b (by omega)) (Below.refl _ _) (fun _ => rfl)
    (fun pre W => (Blk W w.heap.size 4 #[.bool false] ∧ pre.all (okF old a b) = true) ∧ (Below w.heap.size w W ∧ w.heap.size + 5 ≤ W.heap.size))
    (fun c pre W => (Blk W w.heap.size 4 #[.bool false] ∧ (c = .ret ∧ ∃ j, okF old a b j = false)) ∧ (Below w.heap.size w W ∧ w.heap.size + 5 ≤ W.heap.size))
    (OwnFrom.and (OwnFrom.and (Own.from (blk_own _ _ _) _) (ownFrom_pure _ _)) (OwnFrom.and (ownFrom_below (Nat.le_refl _) (by omega)) (fun _ _ _ _ hs hg _ => Nat.le_trans hs hg.size)))
    (fun c => OwnFrom.and (OwnFrom.and (Own.from (blk_own _ _ _) _) (ownFrom_pure _ _)) (OwnFrom.and (ownFrom_below (Nat.le_refl _) (by omega)) (fun _ _ _ _ hs hg _ => Nat.le_trans hs hg.size)))
    ⟨⟨d0, rfl⟩, hB2, by omega⟩
    (fun x a' W => ∃ Bx, w.heap.size + 5 ≤ Bx ∧ Blk W Bx 36 #[.int .u8 ((byteOr old 0 x.1).toNat : Int), .int .u8 ((byteOr a 255 x.1).toNat : Int), .int .u8 ((byteOr b 0 x.1).toNat : Int)] ∧ a' = { tmps := #[.string old, .string a, .string b, undef, undef, undef, .pointer (some ⟨w.heap.size, 0, none⟩), undef, .pointer (some ⟨Bx, 0, none⟩), .string old, .string a, .string b, .func (.func 15) #[] #[.pointer (some ⟨w.heap.size + 1, 0, none⟩), .pointer (some ⟨w.heap.size + 1 + 1 + 1 + 1, 0, none⟩), .pointer (some ⟨w.heap.size + 1 + 1, 0, none⟩), .pointer (some ⟨w.heap.size + 1 + 1 + 1, 0, none⟩)], .int .i64 (x.1 : Int), .agg #[.int .u8 ((byteOr old 0 x.1).toNat : Int), .int .u8 ((byteOr a 255 x.1).toNat : Int), .int .u8 ((byteOr b 0 x.1).toNat : Int)], undef, undef, undef, undef, undef, undef, undef, undef, undef, undef, undef, undef, undef, undef, undef, undef, undef, undef, undef, undef, undef, undef], defers := [] })
    (fun x a' _ X Y row hs hg hr => by obtain ⟨Bx, h1, h2, h3⟩ := hs; exact ⟨Bx, h1, blk_own Bx _ (fun (_ : Unit) => #[.int .u8 ((byteOr old 0 x.1).toNat : Int), .int .u8 ((byteOr a 255 x.1).toNat : Int), .int .u8 ((byteOr b 0 x.1).toNat : Int)]) () X Y row h2 hg (fun r e => (hr r e).2), h3⟩)
    ?assign ?body ?done ?stop
  case assign =>
    rintro l pre x W K ⟨⟨bS1, hall⟩, hB1, hW6⟩ hK
    have hW := hB1.size
    gi_wp2
    exact hK _ _ ((KeepsOthers.alloc _ _).from _) ((Mid.refl _ _ W).alloc (by omega) _) ⟨⟨bS1.alloc _, hall⟩, hB1.alloc hB1.size _, by simp; omega⟩ ⟨W.heap.size, by omega, Blk.new W _ _, rfl⟩
  case body =>
    rintro l pre x a' W hl ⟨r, hr⟩ ⟨⟨bS1, hall⟩, hB1, hW6⟩ ⟨Bx, hBx, bX, rfl⟩ hlt
    have cS := bS1.cell 0
    have fS := bS1.frozen 0
    have cX0 := bX.cell 0
    have cX1 := bX.cell 1
    have cX2 := bX.cell 2
    have hz1 := u8_andNot2 (byteOr b 0 x.1) (byteOr old 0 x.1)
    have hz2 := u8_and2 (byteOr old 0 x.1) (byteOr a 255 x.1)
    have hz3 := u8_andNot2 (byteOr old 0 x.1 &&& byteOr a 255 x.1) (byteOr b 0 x.1)
    have hok : okF old a b x = ((byteOr b 0 x.1 &&& ~~~(byteOr old 0 x.1) == 0) && (byteOr old 0 x.1 &&& byteOr a 255 x.1 &&& ~~~(byteOr b 0 x.1) == 0)) := rfl
    obtain ⟨z2, hzz2⟩ : ∃ z2, z2 = byteOr old 0 x.1 &&& byteOr a 255 x.1 := ⟨_, rfl⟩
    rw [← hzz2] at hz2 hz3 hok
    obtain ⟨z1, hzz1⟩ : ∃ z1, z1 = byteOr b 0 x.1 &&& ~~~(byteOr old 0 x.1) := ⟨_, rfl⟩
    obtain ⟨z3, hzz3⟩ : ∃ z3, z3 = z2 &&& ~~~(byteOr b 0 x.1) := ⟨_, rfl⟩
    rw [← hzz1] at hz1 hok
    rw [← hzz3] at hz3 hok
    clear hzz1 hzz2 hzz3
    have HOK := Lib.hid hok; clear hok
    by_cases g1 : z1 = 0
    · subst g1
      by_cases g3 : z3 = 0
      · subst g3
        gi_wp2
        exact ⟨(KeepsOthers.refl W).from _, Mid.refl _ _ _, ⟨⟨bS1, by rw [List.all_append, hall]; simp [HOK.out]⟩, hB1, hW6⟩⟩
      · have g3' : (((z3.toNat : Nat) : Int) != 0) = true := by simp; intro h; exact g3 (UInt8.toNat_inj.1 h)
        have hbad : okF old a b x = false := by rw [HOK.out]; simp [g3]
        gi_wp2
        exact ⟨(KeepsOthers.setCell _ _ _).from _, ⟨⟨bS1.set 0 (.bool false), rfl, x, hbad⟩, hB1.setCell (p := ⟨w.heap.size, 0, none⟩) (by simp) _, by rw [World.size_setCell]; exact hW6⟩⟩
    · have g1' : (((z1.toNat : Nat) : Int) != 0) = true := by simp; intro h; exact g1 (UInt8.toNat_inj.1 h)
      have hbad : okF old a b x = false := by rw [HOK.out]; simp [g1]
      gi_wp2
      exact ⟨(KeepsOthers.setCell _ _ _).from _, ⟨⟨bS1.set 0 (.bool false), rfl, x, hbad⟩, hB1.setCell (p := ⟨w.heap.size, 0, none⟩) (by simp) _, by rw [World.size_setCell]; exact hW6⟩⟩
  case done =>
    rintro D zs W hD rfl ⟨⟨bS1, hall⟩, hB1, hW6⟩ hK
    have cS := bS1.cell 0
    have fS := bS1.frozen 0
    gi_wp2
    have hm : mayB old a b = ((b.size : Int) == (old.size : Int)) := by
      unfold mayB; rw [hall, Bool.true_and, Bool.eq_iff_iff, decide_eq_true_iff, beq_iff_eq]; omega
    have bS2 := bS1.set 0 (.bool ((b.size : Int) == (old.size : Int)))
    have hK' := (KeepsOthers.setCell W ⟨w.heap.size, 0, none⟩ (.bool ((b.size : Int) == (old.size : Int)))).same D _ hK rfl
    have bS3 := blk_own w.heap.size 4 (fun (_ : Unit) => #[.bool ((b.size : Int) == (old.size : Int))]) () _ _ _ bS2 (grownBy_putObj' _ D (.deferred none)) (fun r e => by cases e; exact ⟨_, hK', rfl⟩)
    have hc5 := bS3.cell 0
    refine ⟨by simp, .inl ⟨_, _, rfl, run_takeDeferred hK', ?_⟩⟩
    refine ⟨.bool ((b.size : Int) == (old.size : Int)), ?_, by rw [hm], ?_⟩
    · simp [results, Try.f9, go_sem, hc5]
    · exact (hB1.setCell (p := ⟨w.heap.size, 0, none⟩) (by simp) _).trans (belowK_b (w := w) (Nat.le_refl _) _ D _ _ (by omega) hK' rfl rfl)
  case stop =>
    rintro D c pre W hD hSp ⟨⟨bS1, rfl, j, hj⟩, hB1, hW6⟩ hK
    have cS := bS1.cell 0
    gi_wp2
    have hm : mayB old a b = false := by
      unfold mayB
      rw [Bool.and_eq_false_iff]
      left
      rw [List.all_eq_false]
      exact ⟨j, mem_ups _ j, by simp [hj]⟩
    have bS3 := blk_own w.heap.size 4 (fun (_ : Unit) => #[.bool false]) () _ _ _ bS1 (grownBy_putObj' _ D (.deferred none)) (fun r e => by cases e; exact ⟨_, hK, rfl⟩)
    have hc5 := bS3.cell 0
    refine ⟨by simp, .inl ⟨_, _, rfl, run_takeDeferred hK, ?_⟩⟩
    refine ⟨.bool false, ?_, by rw [hm], ?_⟩
    · simp [results, Try.f9, go_sem, hc5]
    · exact hB1.trans (belowK_b (w := w) (Nat.le_refl _) _ D _ _ (by omega) hK rfl rfl)
end Go.Proofs.Ytlkionloiofkhaa
