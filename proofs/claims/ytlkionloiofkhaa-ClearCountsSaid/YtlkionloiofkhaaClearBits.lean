/- clear.Bits. -/
import Derived.Test.YtlkionloiofkhaaClearMay
namespace Go.Proofs.Ytlkionloiofkhaa
open Go.RowKit Go.Shelf
attribute [local go_sem] Oper.semAt_some
set_option linter.unusedVariables false

/-- how many bits of a byte are 1 -/
def popc (x : UInt8) : Nat := (x.toNat % 2) + (x.toNat / 2 % 2) + (x.toNat / 4 % 2) + (x.toNat / 8 % 2) + (x.toNat / 16 % 2) + (x.toNat / 32 % 2) + (x.toNat / 64 % 2) + (x.toNat / 128 % 2)

set_option maxRecDepth 1000000 in
theorem ones_raw (x : UInt8) (w : World) :
    Calls Try.prog 14 #[.int .u8 (x.toNat : Int)] w fun e w' => e = .returned (.int .i64 (popc x : Int)) ∧ w = w' := by
  have hx : x.toNat < 256 := x.toNat_lt
  go_enter Try.func14, Try.ntmps14
  go_wp2
  go_ret
  refine ⟨ret_int ?_, rfl⟩
  clear w
  obtain ⟨v, rfl⟩ : ∃ v : Fin 256, x = UInt8.ofNat v.1 := ⟨⟨x.toNat, hx⟩, by simp⟩
  revert v
  decide +kernel
/-- how many bits went, over the places so far -/
def cnt (old a : ByteArray) (pre : List (Fin old.size)) : Nat := (pre.map (fun j => popc (byteOr old 0 j.1 &&& ~~~(byteOr a 255 j.1)))).sum
def bitsN (old a : ByteArray) : Nat := cnt old a (ups old.size old.size)
theorem cnt_snoc (old a : ByteArray) (pre : List (Fin old.size)) (j : Fin old.size) : cnt old a (pre ++ [j]) = cnt old a pre + popc (byteOr old 0 j.1 &&& ~~~(byteOr a 255 j.1)) := by simp [cnt]
theorem popc_le (x : UInt8) : popc x ≤ 8 := by unfold popc; omega
theorem cnt_le (old a : ByteArray) (pre : List (Fin old.size)) : cnt old a pre ≤ 8 * pre.length := by
  unfold cnt
  induction pre with
  | nil => simp
  | cons j pre ih => have := popc_le (byteOr old 0 j.1 &&& ~~~(byteOr a 255 j.1)); simp only [List.map_cons, List.sum_cons, List.length_cons]; omega

set_option maxRecDepth 100000 in
set_option maxHeartbeats 2000000 in
theorem Bits_in (n : Nat) (hn : 4 ≤ n) (old a : ByteArray) (hso : old.size ≤ 140737488355328) (hsa : a.size ≤ maxLen) (w : World) :
    CallsIn Fence.wide n Try.prog 12 #[.string old, .string a] w fun e w' =>
      e = .returned (.int .i64 (bitsN old a : Int)) ∧ Below w.heap.size w w' := by
  have h1 : 1 ≤ n := by omega
  refine callsIn_of_wp_marks Try.func12 rfl trivial ?_ rfl
  simp only [Try.ntmps12, List.size_toArray, List.length_cons, List.length_nil, Nat.reduceAdd, Nat.reduceSub, Array.replicate_succ, Array.replicate_zero, List.push_toArray, List.append_toArray, List.nil_append, List.cons_append]
  gi_wp2_with (refine ⟨trivial, ?_⟩; refine (places_in (n - 1) old a ⟨#[]⟩ 0 _).mono ?_; rintro e w' ⟨rfl, rfl⟩)
  have b0 := Blk.new w 3 #[.int .i64 0]
  have hB0 : Below w.heap.size w (w.alloc (.cells #[.int .i64 0] 3)) := (Below.refl _ w).alloc (Nat.le_refl _) _
  have hsz : (w.alloc (.cells #[.int .i64 0] 3)).heap.size = w.heap.size + 1 := by simp
  generalize (w.alloc (.cells #[.int .i64 0] 3)) = W1 at *
  have c1 := Blk.new W1 9 #[.string old]
  have c2 := Blk.new (W1.alloc (.cells #[.string old] 9)) 9 #[.string a]
  have c3 := Blk.new ((W1.alloc (.cells #[.string old] 9)).alloc (.cells #[.string a] 9)) 9 #[.string ⟨#[]⟩]
  have c4 := Blk.new (((W1.alloc (.cells #[.string old] 9)).alloc (.cells #[.string a] 9)).alloc (.cells #[.string ⟨#[]⟩] 9)) 5 #[.int .u8 0]
  have k1 := ((c1.alloc (.cells #[.string a] 9)).alloc (.cells #[.string ⟨#[]⟩] 9)).alloc (.cells #[.int .u8 0] 5)
  have k2 := (c2.alloc (.cells #[.string ⟨#[]⟩] 9)).alloc (.cells #[.int .u8 0] 5)
  have k3 := c3.alloc (.cells #[.int .u8 0] 5)
  have d0 := (((b0.alloc (.cells #[.string old] 9)).alloc (.cells #[.string a] 9)).alloc (.cells #[.string ⟨#[]⟩] 9)).alloc (.cells #[.int .u8 0] 5)
  simp only [World.size_alloc] at k2 k3 c4
  have hB2 : Below w.heap.size w ((((W1.alloc (.cells #[.string old] 9)).alloc (.cells #[.string a] 9)).alloc (.cells #[.string ⟨#[]⟩] 9)).alloc (.cells #[.int .u8 0] 5)) := (((hB0.alloc hB0.size _).alloc (by simp; omega) _).alloc (by simp; omega) _).alloc (by simp; omega) _
  have hsz2 : ((((W1.alloc (.cells #[.string old] 9)).alloc (.cells #[.string a] 9)).alloc (.cells #[.string ⟨#[]⟩] 9)).alloc (.cells #[.int .u8 0] 5)).heap.size = W1.heap.size + 4 := by simp
  generalize ((((W1.alloc (.cells #[.string old] 9)).alloc (.cells #[.string a] 9)).alloc (.cells #[.string ⟨#[]⟩] 9)).alloc (.cells #[.int .u8 0] 5)) = W0 at *
  clear c1 c2 c3 b0 hB0
  rw [hsz] at k1 k2 k3 c4 hsz2
  have e1 : W0.heap.size = w.heap.size + 5 := by omega
  refine wpIn_rangeFunc_ownH rfl h1 (gf := 15) (lb := #[.pointer (some ⟨w.heap.size + 1, 0, none⟩), .pointer (some ⟨w.heap.size + 1 + 1 + 1 + 1, 0, none⟩), .pointer (some ⟨w.heap.size + 1 + 1, 0, none⟩), .pointer (some ⟨w.heap.size + 1 + 1 + 1, 0, none⟩)]) rfl trivial (enters_of Try.func15 (by kernel_rfl) rfl)
    (places_stops (n - 1) (by omega) (w.heap.size + 1) (w.heap.size + 1 + 1) (w.heap.size + 1 + 1 + 1) (w.heap.size + 1 + 1 + 1 + 1) (w.heap.size + 1) (w.heap.size + 5) old a ⟨#[]⟩ 0 W0 (by unfold maxLen; omega) hsa (by decide) (by omega) (by omega) (by omega) (by omega) (by omega) (k1.cell 0) (k2.cell 0) (k3.cell 0) (c4.cell 0))
    (fun h k => Mid.trans h k) (midK_b (by omega)) (Below.refl _ _) (fun _ => rfl)
    (fun pre W => Blk W w.heap.size 3 #[.int .i64 (cnt old a pre : Int)] ∧ (Below w.heap.size w W ∧ w.heap.size + 5 ≤ W.heap.size))
    (fun _ _ _ => False)
    (OwnFrom.and (Own.from (blk_own _ _ _) _) (OwnFrom.and (ownFrom_below (Nat.le_refl _) (by omega)) (fun _ _ _ _ hs hg _ => Nat.le_trans hs hg.size)))
    (fun _ _ _ _ _ hs _ _ => hs)
    ⟨d0, hB2, by omega⟩
    (fun x a' W => ∃ Bx, w.heap.size + 5 ≤ Bx ∧ Blk W Bx 36 #[.int .u8 ((byteOr old 0 x.1).toNat : Int), .int .u8 ((byteOr a 255 x.1).toNat : Int), .int .u8 ((byteOr ⟨#[]⟩ 0 x.1).toNat : Int)] ∧ a' = { tmps := #[.string old, .string a, undef, undef, .pointer (some ⟨w.heap.size, 0, none⟩), undef, .pointer (some ⟨Bx, 0, none⟩), .string old, .string a, .func (.func 15) #[] #[.pointer (some ⟨w.heap.size + 1, 0, none⟩), .pointer (some ⟨w.heap.size + 1 + 1 + 1 + 1, 0, none⟩), .pointer (some ⟨w.heap.size + 1 + 1, 0, none⟩), .pointer (some ⟨w.heap.size + 1 + 1 + 1, 0, none⟩)], .int .i64 (x.1 : Int), .agg #[.int .u8 ((byteOr old 0 x.1).toNat : Int), .int .u8 ((byteOr a 255 x.1).toNat : Int), .int .u8 ((byteOr ⟨#[]⟩ 0 x.1).toNat : Int)], undef, undef, undef, undef, undef, undef, undef, undef, undef], defers := [] })
    (fun x a' _ X Y row hs hg hr => by obtain ⟨Bx, h1, h2, h3⟩ := hs; exact ⟨Bx, h1, blk_own Bx _ (fun (_ : Unit) => #[.int .u8 ((byteOr old 0 x.1).toNat : Int), .int .u8 ((byteOr a 255 x.1).toNat : Int), .int .u8 ((byteOr ⟨#[]⟩ 0 x.1).toNat : Int)]) () X Y row h2 hg (fun r e => (hr r e).2), h3⟩)
    ?assign ?body ?done ?stop
  case assign =>
    rintro l pre x W K ⟨bS1, hB1, hW6⟩ hK
    have hW := hB1.size
    gi_wp2
    exact hK _ _ ((KeepsOthers.alloc _ _).from _) ((Mid.refl _ _ W).alloc (by omega) _) ⟨bS1.alloc _, hB1.alloc hB1.size _, by simp; omega⟩ ⟨W.heap.size, by omega, Blk.new W _ _, rfl⟩
  case body =>
    rintro l pre x a' W hl ⟨r, hr⟩ ⟨bS1, hB1, hW6⟩ ⟨Bx, hBx, bX, rfl⟩ hlt
    have cS := bS1.cell 0
    have fS := bS1.frozen 0
    have cX0 := bX.cell 0
    have cX1 := bX.cell 1
    have hz1 := u8_andNot2 (byteOr old 0 x.1) (byteOr a 255 x.1)
    have hcn : cnt old a (pre ++ [x]) = cnt old a pre + popc (byteOr old 0 x.1 &&& ~~~(byteOr a 255 x.1)) := cnt_snoc _ _ _ _
    have hle := cnt_le old a pre
    have hple := popc_le (byteOr old 0 x.1 &&& ~~~(byteOr a 255 x.1))
    obtain ⟨z1, hzz1⟩ : ∃ z1, z1 = byteOr old 0 x.1 &&& ~~~(byteOr a 255 x.1) := ⟨_, rfl⟩
    rw [← hzz1] at hz1 hcn hple
    clear hzz1
    obtain ⟨c0, hc0⟩ : ∃ c0, c0 = cnt old a pre := ⟨_, rfl⟩
    obtain ⟨c1, hc1⟩ : ∃ c1, c1 = popc z1 := ⟨_, rfl⟩
    rw [← hc0] at hcn hle cS bS1
    rw [← hc1] at hcn hple
    have hadd : IntKind.i64.wrap ((c0 : Int) + (c1 : Int)) = ((c0 + c1 : Nat) : Int) := by rw [IntWalk.i64_in _ (by omega)]; omega
    have hpop : ∀ w, Calls Try.prog 14 #[.int .u8 (z1.toNat : Int)] w fun e w' => e = .returned (.int .i64 (c1 : Int)) ∧ w = w' := fun w => by rw [hc1]; exact ones_raw z1 w
    have bS2 : Blk (W.setCell ⟨w.heap.size, 0, none⟩ (.int .i64 ((c0 : Int) + (c1 : Int)))).drew w.heap.size 3 #[.int .i64 (cnt old a (pre ++ [x]) : Int)] := by
      have h := (bS1.set 0 (.int .i64 ((c0 : Int) + (c1 : Int)))).drew
      rw [hcn]; push_cast; exact h
    have K1 : KeepsFrom W0.heap.size W (W.setCell ⟨w.heap.size, 0, none⟩ (.int .i64 ((c0 : Int) + (c1 : Int)))).drew := ((KeepsOthers.setCell _ _ _).trans (KeepsOthers.drew _)).from _
    have hW9 : w.heap.size + 5 ≤ (W.setCell ⟨w.heap.size, 0, none⟩ (.int .i64 ((c0 : Int) + (c1 : Int)))).heap.size := by rw [World.size_setCell]; exact hW6
    have M1 : Mid (w.heap.size + 1) (w.heap.size + 5) W (W.setCell ⟨w.heap.size, 0, none⟩ (.int .i64 ((c0 : Int) + (c1 : Int)))).drew := ((Mid.refl _ _ W).setCell ⟨w.heap.size, 0, none⟩ (by simp) (.int .i64 ((c0 : Int) + (c1 : Int)))).trans (Mid.of_below (Below.refl (W.setCell ⟨w.heap.size, 0, none⟩ (.int .i64 ((c0 : Int) + (c1 : Int)))).heap.size (W.setCell ⟨w.heap.size, 0, none⟩ (.int .i64 ((c0 : Int) + (c1 : Int))))).drew hW9)
    have B1 : Below w.heap.size w (W.setCell ⟨w.heap.size, 0, none⟩ (.int .i64 ((c0 : Int) + (c1 : Int)))).drew := (hB1.setCell (p := ⟨w.heap.size, 0, none⟩) (by simp) _).drew
    have HF := Lib.hid (And.intro K1 (And.intro M1 (And.intro bS2 (And.intro B1 (show w.heap.size + 5 ≤ (W.setCell ⟨w.heap.size, 0, none⟩ (.int .i64 ((c0 : Int) + (c1 : Int)))).drew.heap.size from hW9)))))
    clear K1 hW9 M1 B1
    clear bS2 hc0 hc1 hcn hle hple
    gi_wp2
    gi_region_with (refine ⟨trivial, (fun h => by cases h), ?_⟩; refine (CallsIn.inRound l (callsIn_wide.2 (hpop _))).mono ?_; rintro e w' ⟨rfl, rfl⟩)
    gi_wp2
    all_goals exact HF.out
  case done =>
    rintro D zs W hD rfl ⟨bS1, hB1, hW6⟩ hK
    have cS := bS1.cell 0
    have fS := bS1.frozen 0
    gi_wp2
    have bS2 := bS1.set 0 (.int .i64 (cnt old a (ups old.size old.size) : Int))
    have hK' := (KeepsOthers.setCell W ⟨w.heap.size, 0, none⟩ (.int .i64 (cnt old a (ups old.size old.size) : Int))).same D _ hK rfl
    have bS3 := blk_own w.heap.size 3 (fun (_ : Unit) => #[.int .i64 (cnt old a (ups old.size old.size) : Int)]) () _ _ _ bS2 (grownBy_putObj' _ D (.deferred none)) (fun r e => by cases e; exact ⟨_, hK', rfl⟩)
    have hc5 := bS3.cell 0
    refine ⟨by simp, .inl ⟨_, _, rfl, run_takeDeferred hK', ?_⟩⟩
    refine ⟨.int .i64 (cnt old a (ups old.size old.size) : Int), ?_, rfl, ?_⟩
    · simp [results, Try.f12, go_sem, hc5]
    · exact (hB1.setCell (p := ⟨w.heap.size, 0, none⟩) (by simp) _).trans (belowK_b (w := w) (Nat.le_refl _) _ D _ _ (by omega) hK' rfl rfl)
  case stop =>
    rintro D c pre W _ _ h _
    exact h.elim
end Go.Proofs.Ytlkionloiofkhaa
