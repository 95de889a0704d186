/- clear.And, clear.Torn, clear.May, clear.Bits: what each answers. -/
import Derived.Test.YthagnnaemcknfaaClear
namespace Go.Proofs.Ythagnnaemcknfaa
open Go.RowKit Go.Shelf
attribute [local go_sem] Oper.semAt_some
set_option linter.unusedVariables false

theorem blk_own {β : Type} (B : Nat) (t : TypeId) (f : β → Array Value) : Own (fun s W => Blk W B t (f s)) := fun s X Y row hs hg hrow =>
  (hg.block B (Blk.lt hs) (fun e => by
    obtain ⟨o, ho, hc⟩ := hrow B e.symm
    have hs' : X.heap[B]? = some (.cells (f s) t (0, 0)) := hs
    rw [hs'] at ho
    cases ho
    simp [Obj.isCells] at hc)).trans hs

/-- the bytes written so far, place by place -/
def outL {n : Nat} (g : Fin n → UInt8) (pre : List (Fin n)) : List UInt8 := pre.foldl (fun l j => l.set j.1 (g j)) (List.replicate n 0)
theorem outL_snoc {n : Nat} (g : Fin n → UInt8) (pre : List (Fin n)) (j : Fin n) : outL g (pre ++ [j]) = (outL g pre).set j.1 (g j) := by simp [outL, List.foldl_append]
theorem outL_length {n : Nat} (g : Fin n → UInt8) (pre : List (Fin n)) : (outL g pre).length = n := by
  unfold outL
  suffices h : ∀ (l : List UInt8), l.length = n → (pre.foldl (fun l j => l.set j.1 (g j)) l).length = n from h _ (by simp)
  induction pre with
  | nil => intro l hl; exact hl
  | cons j pre ih => intro l hl; exact ih _ (by simpa using hl)

/-- what And answers, byte by byte -/
def andF (old a : ByteArray) (j : Fin old.size) : UInt8 := byteOr old 0 j.1 &&& byteOr a 255 j.1

theorem u8_and2 (x y : UInt8) : bits .and .u8 (x.toNat : Int) (y.toNat : Int) = ((x &&& y).toNat : Int) := by
  rw [u8_and_nat _ _ x.toNat_lt y.toNat_lt, ← UInt8.toNat_and]

theorem u8_andNot2 (x y : UInt8) : bits .andNot .u8 (x.toNat : Int) (y.toNat : Int) = ((x &&& ~~~y).toNat : Int) := by
  rw [u8_andNot_nat _ _ x.toNat_lt y.toNat_lt, UInt8.toNat_and, UInt8.toNat_not]; rfl

/-- what Torn answers, byte by byte -/
def tornF (old a b : ByteArray) (j : Fin old.size) : UInt8 := byteOr old 0 j.1 &&& ~~~(byteOr old 0 j.1 &&& ~~~(byteOr a 255 j.1) &&& byteOr b 0 j.1)

set_option maxRecDepth 100000 in
set_option maxHeartbeats 2000000 in
theorem And_in (n : Nat) (hn : 4 ≤ n) (old a : ByteArray) (hso : old.size ≤ 140737488355328) (hsa : a.size ≤ maxLen) (w : World) :
    CallsIn Fence.wide n Try.prog 23 #[.string old, .string a] w fun e w' =>
      e = .returned (.string ⟨(outL (andF old a) (ups old.size old.size)).toArray⟩) ∧ Below w.heap.size w w' := by
  have h1 : 1 ≤ n := by omega
  have hmk := mk_bytes old.size hso
  refine callsIn_of_wp_marks Try.func23 rfl trivial ?_ rfl
  simp only [Try.ntmps23, List.size_toArray, List.length_cons, List.length_nil, Nat.reduceAdd, Nat.reduceSub, Array.replicate_succ, Array.replicate_zero, List.push_toArray, List.append_toArray, List.nil_append, List.cons_append]
  gi_wp2_with (refine ⟨trivial, ?_⟩; refine (places_in (n - 1) old a ⟨#[]⟩ 0 _).mono ?_; rintro e w' ⟨rfl, rfl⟩)
  have b0 := Blk.new w 5 (bcells (List.replicate old.size 0)).toArray
  have b1 := Blk.new (w.alloc (.cells (bcells (List.replicate old.size 0)).toArray 5)) 47 #[.slice (some ⟨w.heap.size, 0, none⟩) old.size old.size]
  have hB0 : Below w.heap.size w ((w.alloc (.cells (bcells (List.replicate old.size 0)).toArray 5)).alloc (.cells #[.slice (some ⟨w.heap.size, 0, none⟩) old.size old.size] 47)) := ((Below.refl _ w).alloc (Nat.le_refl _) _).alloc (by simp) _
  have b0' := b0.alloc (.cells #[.slice (some ⟨w.heap.size, 0, none⟩) old.size old.size] 47)
  have hsz : ((w.alloc (.cells (bcells (List.replicate old.size 0)).toArray 5)).alloc (.cells #[.slice (some ⟨w.heap.size, 0, none⟩) old.size old.size] 47)).heap.size = w.heap.size + 2 := by simp
  rw [World.size_alloc] at b1
  generalize ((w.alloc (.cells (bcells (List.replicate old.size 0)).toArray 5)).alloc (.cells #[.slice (some ⟨w.heap.size, 0, none⟩) old.size old.size] 47)) = W1 at *
  clear b0
  have c1 := Blk.new W1 9 #[.string old]
  have c2 := Blk.new (W1.alloc (.cells #[.string old] 9)) 9 #[.string a]
  have c3 := Blk.new ((W1.alloc (.cells #[.string old] 9)).alloc (.cells #[.string a] 9)) 9 #[.string ⟨#[]⟩]
  have c4 := Blk.new (((W1.alloc (.cells #[.string old] 9)).alloc (.cells #[.string a] 9)).alloc (.cells #[.string ⟨#[]⟩] 9)) 5 #[.int .u8 0]
  have k1 := ((c1.alloc (.cells #[.string a] 9)).alloc (.cells #[.string ⟨#[]⟩] 9)).alloc (.cells #[.int .u8 0] 5)
  have k2 := (c2.alloc (.cells #[.string ⟨#[]⟩] 9)).alloc (.cells #[.int .u8 0] 5)
  have k3 := c3.alloc (.cells #[.int .u8 0] 5)
  have d0 := (((b0'.alloc (.cells #[.string old] 9)).alloc (.cells #[.string a] 9)).alloc (.cells #[.string ⟨#[]⟩] 9)).alloc (.cells #[.int .u8 0] 5)
  have d1 := (((b1.alloc (.cells #[.string old] 9)).alloc (.cells #[.string a] 9)).alloc (.cells #[.string ⟨#[]⟩] 9)).alloc (.cells #[.int .u8 0] 5)
  simp only [World.size_alloc] at k2 k3 c4
  have hB2 : Below w.heap.size w ((((W1.alloc (.cells #[.string old] 9)).alloc (.cells #[.string a] 9)).alloc (.cells #[.string ⟨#[]⟩] 9)).alloc (.cells #[.int .u8 0] 5)) := (((hB0.alloc hB0.size _).alloc (by simp; omega) _).alloc (by simp; omega) _).alloc (by simp; omega) _
  have hsz2 : ((((W1.alloc (.cells #[.string old] 9)).alloc (.cells #[.string a] 9)).alloc (.cells #[.string ⟨#[]⟩] 9)).alloc (.cells #[.int .u8 0] 5)).heap.size = W1.heap.size + 4 := by simp
  generalize ((((W1.alloc (.cells #[.string old] 9)).alloc (.cells #[.string a] 9)).alloc (.cells #[.string ⟨#[]⟩] 9)).alloc (.cells #[.int .u8 0] 5)) = W0 at *
  clear c1 c2 c3 b0' b1 hB0
  rw [hsz] at k1 k2 k3 c4 hsz2
  have e1 : W0.heap.size = w.heap.size + 6 := by omega
  refine wpIn_rangeFunc_ownH rfl h1 (gf := 30) (lb := #[.pointer (some ⟨w.heap.size + 2, 0, none⟩), .pointer (some ⟨w.heap.size + 2 + 1 + 1 + 1, 0, none⟩), .pointer (some ⟨w.heap.size + 2 + 1, 0, none⟩), .pointer (some ⟨w.heap.size + 2 + 1 + 1, 0, none⟩)]) rfl trivial (enters_of Try.func30 (by kernel_rfl) rfl)
    (places_stops (n - 1) (by omega) (w.heap.size + 2) (w.heap.size + 2 + 1) (w.heap.size + 2 + 1 + 1) (w.heap.size + 2 + 1 + 1 + 1) (w.heap.size + 2) (w.heap.size + 6) old a ⟨#[]⟩ 0 W0 (by unfold maxLen; omega) hsa (by decide) (by omega) (by omega) (by omega) (by omega) (by omega) (k1.cell 0) (k2.cell 0) (k3.cell 0) (c4.cell 0))
    (fun h k => Mid.trans h k) (midK_b (by omega)) (Below.refl _ _) (fun _ => rfl)
    (fun pre W => (Blk W (w.heap.size + 1) 47 #[.slice (some ⟨w.heap.size, 0, none⟩) old.size old.size] ∧ Blk W w.heap.size 5 (bcells (outL (andF old a) pre)).toArray) ∧ (Below w.heap.size w W ∧ w.heap.size + 6 ≤ W.heap.size))
    (fun _ _ _ => False)
    (OwnFrom.and (OwnFrom.and (Own.from (blk_own _ _ _) _) (Own.from (blk_own _ _ _) _)) (OwnFrom.and (ownFrom_below (Nat.le_refl _) (by omega)) (fun _ _ _ _ hs hg _ => Nat.le_trans hs hg.size)))
    (fun _ _ _ _ _ hs _ _ => hs)
    ⟨⟨d1, d0⟩, hB2, by omega⟩
    (fun x a' W => ∃ Bx, w.heap.size + 6 ≤ Bx ∧ Blk W Bx 52 #[.int .u8 ((byteOr old 0 x.1).toNat : Int), .int .u8 ((byteOr a 255 x.1).toNat : Int), .int .u8 ((byteOr ⟨#[]⟩ 0 x.1).toNat : Int)] ∧ a' = { tmps := #[.string old, .string a, undef, undef, .string ⟨#[]⟩, .pointer (some ⟨w.heap.size + 1, 0, none⟩), .int .i64 (x.1 : Int), .pointer (some ⟨Bx, 0, none⟩), .string old, .int .i64 old.size, .slice (some ⟨w.heap.size, 0, none⟩) old.size old.size, .string old, .string a, .func (.func 30) #[] #[.pointer (some ⟨w.heap.size + 1 + 1, 0, none⟩), .pointer (some ⟨w.heap.size + 1 + 1 + 1 + 1 + 1, 0, none⟩), .pointer (some ⟨w.heap.size + 1 + 1 + 1, 0, none⟩), .pointer (some ⟨w.heap.size + 1 + 1 + 1 + 1, 0, none⟩)], .int .i64 (x.1 : Int), .agg #[.int .u8 ((byteOr old 0 x.1).toNat : Int), .int .u8 ((byteOr a 255 x.1).toNat : Int), .int .u8 ((byteOr ⟨#[]⟩ 0 x.1).toNat : Int)], undef, undef, undef, undef, undef, undef, undef, undef, undef, undef], defers := [] })
    (fun x a' _ X Y row hs hg hr => by obtain ⟨Bx, h1, h2, h3⟩ := hs; exact ⟨Bx, h1, blk_own Bx _ (fun (_ : Unit) => #[.int .u8 ((byteOr old 0 x.1).toNat : Int), .int .u8 ((byteOr a 255 x.1).toNat : Int), .int .u8 ((byteOr ⟨#[]⟩ 0 x.1).toNat : Int)]) () X Y row h2 hg (fun r e => (hr r e).2), h3⟩)
    ?assign ?body ?done ?stop
  case assign =>
    rintro l pre x W K ⟨⟨bS1, bB1⟩, hB1, hW6⟩ hK
    have hW := hB1.size
    have hW2 := bS1.lt
    gi_wp2
    exact hK _ _ ((KeepsOthers.alloc _ _).from _) ((Mid.refl _ _ W).alloc (by omega) _) ⟨⟨bS1.alloc _, bB1.alloc _⟩, hB1.alloc hB1.size _, by simp; omega⟩ ⟨W.heap.size, by omega, Blk.new W _ _, rfl⟩
  case body =>
    rintro l pre x a' W hl ⟨r, hr⟩ ⟨⟨bS1, bB1⟩, hB1, hW6⟩ ⟨Bx, hBx, bX, rfl⟩ hlt
    have cS := bS1.cell 0
    have cX0 := bX.cell 0
    have cX1 := bX.cell 1
    have hx := x.2
    have hol := outL_length (andF old a) pre
    obtain ⟨y, cB⟩ : ∃ y : Int, W.cell? ⟨w.heap.size, x.1, none⟩ = some (.int .u8 y) := ⟨((outL (andF old a) pre)[x.1]'(by omega)).toNat, by rw [bB1.cell]; simp [bcells, hol, hx]⟩
    have fB := bB1.frozen x.1
    have hz := u8_and2 (byteOr old 0 x.1) (byteOr a 255 x.1)
    have hset := bcells_set (outL (andF old a) pre) x.1 (byteOr old 0 x.1 &&& byteOr a 255 x.1)
    have bB2 := bB1.set x.1 (.int .u8 ((byteOr old 0 x.1 &&& byteOr a 255 x.1).toNat : Int))
    have bS2 := bS1.other ⟨w.heap.size, x.1, none⟩ (by simp) (.int .u8 ((byteOr old 0 x.1 &&& byteOr a 255 x.1).toNat : Int))
    rw [hset, show outL (andF old a) pre = outL (andF old a) pre from rfl] at bB2
    have hsn : (outL (andF old a) pre).set x.1 (byteOr old 0 x.1 &&& byteOr a 255 x.1) = outL (andF old a) (pre ++ [x]) := (outL_snoc _ _ _).symm
    rw [hsn] at bB2
    have HB := Lib.hid bB2
    have HS := Lib.hid bS2
    clear bB2 bS2 hset hsn hol bS1 bB1 bX
    obtain ⟨z, hzz⟩ : ∃ z, z = byteOr old 0 x.1 &&& byteOr a 255 x.1 := ⟨_, rfl⟩
    rw [← hzz] at hz HB HS
    clear hzz
    gi_wp2
    exact ⟨(KeepsOthers.setCell _ _ _).from _, (Mid.refl _ _ W).setCell _ (by simp) _, ⟨⟨HS.out, HB.out⟩, hB1.setCell (p := ⟨w.heap.size, x.1, none⟩) (by simp) _, by rw [World.size_setCell]; exact hW6⟩⟩
  case done =>
    rintro D zs W hD rfl ⟨⟨bS1, bB1⟩, hB1, hW6⟩ hK
    have cS := bS1.cell 0
    have hcv : (convert 47 9 (.slice (some ⟨w.heap.size, 0, none⟩) old.size old.size)).run Try.prog W = .ok (.string ⟨(outL (andF old a) (ups old.size old.size)).toArray⟩) W := by
      have hc := conv_cells W w.heap.size 0 old.size (outL (andF old a) (ups old.size old.size)) (fun j hj => by rw [Nat.zero_add, bB1.cell]; simp [bcells, hj])
      rw [outL_length] at hc
      exact hc
    gi_wp2
    refine ⟨by simp, .inl ⟨_, _, rfl, run_takeDeferred hK, ?_⟩⟩
    exact ⟨_, results_tmp rfl _ _ _, rfl, hB1.trans (belowK_b (w := w) (Nat.le_refl _) W D _ _ (by omega) hK rfl rfl)⟩
  case stop =>
    rintro D c pre W _ _ h _
    exact h.elim
set_option maxRecDepth 100000 in
set_option maxHeartbeats 2000000 in
theorem Torn_in (n : Nat) (hn : 4 ≤ n) (old a b : ByteArray) (hso : old.size ≤ 140737488355328) (hsa : a.size ≤ maxLen) (hsb : b.size ≤ maxLen) (w : World) :
    CallsIn Fence.wide n Try.prog 15 #[.string old, .string a, .string b] w fun e w' =>
      e = .returned (.string ⟨(outL (tornF old a b) (ups old.size old.size)).toArray⟩) ∧ Below w.heap.size w w' := by
  have h1 : 1 ≤ n := by omega
  have hmk := mk_bytes old.size hso
  refine callsIn_of_wp_marks Try.func15 rfl trivial ?_ rfl
  simp only [Try.ntmps15, List.size_toArray, List.length_cons, List.length_nil, Nat.reduceAdd, Nat.reduceSub, Array.replicate_succ, Array.replicate_zero, List.push_toArray, List.append_toArray, List.nil_append, List.cons_append]
  gi_wp2_with (refine ⟨trivial, ?_⟩; refine (places_in (n - 1) old a b 0 _).mono ?_; rintro e w' ⟨rfl, rfl⟩)
  have b0 := Blk.new w 5 (bcells (List.replicate old.size 0)).toArray
  have b1 := Blk.new (w.alloc (.cells (bcells (List.replicate old.size 0)).toArray 5)) 47 #[.slice (some ⟨w.heap.size, 0, none⟩) old.size old.size]
  have hB0 : Below w.heap.size w ((w.alloc (.cells (bcells (List.replicate old.size 0)).toArray 5)).alloc (.cells #[.slice (some ⟨w.heap.size, 0, none⟩) old.size old.size] 47)) := ((Below.refl _ w).alloc (Nat.le_refl _) _).alloc (by simp) _
  have b0' := b0.alloc (.cells #[.slice (some ⟨w.heap.size, 0, none⟩) old.size old.size] 47)
  have hsz : ((w.alloc (.cells (bcells (List.replicate old.size 0)).toArray 5)).alloc (.cells #[.slice (some ⟨w.heap.size, 0, none⟩) old.size old.size] 47)).heap.size = w.heap.size + 2 := by simp
  rw [World.size_alloc] at b1
  generalize ((w.alloc (.cells (bcells (List.replicate old.size 0)).toArray 5)).alloc (.cells #[.slice (some ⟨w.heap.size, 0, none⟩) old.size old.size] 47)) = W1 at *
  clear b0
  have c1 := Blk.new W1 9 #[.string old]
  have c2 := Blk.new (W1.alloc (.cells #[.string old] 9)) 9 #[.string a]
  have c3 := Blk.new ((W1.alloc (.cells #[.string old] 9)).alloc (.cells #[.string a] 9)) 9 #[.string b]
  have c4 := Blk.new (((W1.alloc (.cells #[.string old] 9)).alloc (.cells #[.string a] 9)).alloc (.cells #[.string b] 9)) 5 #[.int .u8 0]
  have k1 := ((c1.alloc (.cells #[.string a] 9)).alloc (.cells #[.string b] 9)).alloc (.cells #[.int .u8 0] 5)
  have k2 := (c2.alloc (.cells #[.string b] 9)).alloc (.cells #[.int .u8 0] 5)
  have k3 := c3.alloc (.cells #[.int .u8 0] 5)
  have d0 := (((b0'.alloc (.cells #[.string old] 9)).alloc (.cells #[.string a] 9)).alloc (.cells #[.string b] 9)).alloc (.cells #[.int .u8 0] 5)
  have d1 := (((b1.alloc (.cells #[.string old] 9)).alloc (.cells #[.string a] 9)).alloc (.cells #[.string b] 9)).alloc (.cells #[.int .u8 0] 5)
  simp only [World.size_alloc] at k2 k3 c4
  have hB2 : Below w.heap.size w ((((W1.alloc (.cells #[.string old] 9)).alloc (.cells #[.string a] 9)).alloc (.cells #[.string b] 9)).alloc (.cells #[.int .u8 0] 5)) := (((hB0.alloc hB0.size _).alloc (by simp; omega) _).alloc (by simp; omega) _).alloc (by simp; omega) _
  have hsz2 : ((((W1.alloc (.cells #[.string old] 9)).alloc (.cells #[.string a] 9)).alloc (.cells #[.string b] 9)).alloc (.cells #[.int .u8 0] 5)).heap.size = W1.heap.size + 4 := by simp
  generalize ((((W1.alloc (.cells #[.string old] 9)).alloc (.cells #[.string a] 9)).alloc (.cells #[.string b] 9)).alloc (.cells #[.int .u8 0] 5)) = W0 at *
  clear c1 c2 c3 b0' b1 hB0
  rw [hsz] at k1 k2 k3 c4 hsz2
  have e1 : W0.heap.size = w.heap.size + 6 := by omega
  refine wpIn_rangeFunc_ownH rfl h1 (gf := 30) (lb := #[.pointer (some ⟨w.heap.size + 2, 0, none⟩), .pointer (some ⟨w.heap.size + 2 + 1 + 1 + 1, 0, none⟩), .pointer (some ⟨w.heap.size + 2 + 1, 0, none⟩), .pointer (some ⟨w.heap.size + 2 + 1 + 1, 0, none⟩)]) rfl trivial (enters_of Try.func30 (by kernel_rfl) rfl)
    (places_stops (n - 1) (by omega) (w.heap.size + 2) (w.heap.size + 2 + 1) (w.heap.size + 2 + 1 + 1) (w.heap.size + 2 + 1 + 1 + 1) (w.heap.size + 2) (w.heap.size + 6) old a b 0 W0 (by unfold maxLen; omega) hsa hsb (by omega) (by omega) (by omega) (by omega) (by omega) (k1.cell 0) (k2.cell 0) (k3.cell 0) (c4.cell 0))
    (fun h k => Mid.trans h k) (midK_b (by omega)) (Below.refl _ _) (fun _ => rfl)
    (fun pre W => (Blk W (w.heap.size + 1) 47 #[.slice (some ⟨w.heap.size, 0, none⟩) old.size old.size] ∧ Blk W w.heap.size 5 (bcells (outL (tornF old a b) pre)).toArray) ∧ (Below w.heap.size w W ∧ w.heap.size + 6 ≤ W.heap.size))
    (fun _ _ _ => False)
    (OwnFrom.and (OwnFrom.and (Own.from (blk_own _ _ _) _) (Own.from (blk_own _ _ _) _)) (OwnFrom.and (ownFrom_below (Nat.le_refl _) (by omega)) (fun _ _ _ _ hs hg _ => Nat.le_trans hs hg.size)))
    (fun _ _ _ _ _ hs _ _ => hs)
    ⟨⟨d1, d0⟩, hB2, by omega⟩
    (fun x a' W => ∃ Bx, w.heap.size + 6 ≤ Bx ∧ Blk W Bx 52 #[.int .u8 ((byteOr old 0 x.1).toNat : Int), .int .u8 ((byteOr a 255 x.1).toNat : Int), .int .u8 ((byteOr b 0 x.1).toNat : Int)] ∧ a' = { tmps := #[.string old, .string a, .string b, undef, undef, undef, .string ⟨#[]⟩, .pointer (some ⟨w.heap.size + 1, 0, none⟩), .int .i64 (x.1 : Int), .pointer (some ⟨Bx, 0, none⟩), .string old, .int .i64 old.size, .slice (some ⟨w.heap.size, 0, none⟩) old.size old.size, .string old, .string a, .string b, .func (.func 30) #[] #[.pointer (some ⟨w.heap.size + 1 + 1, 0, none⟩), .pointer (some ⟨w.heap.size + 1 + 1 + 1 + 1 + 1, 0, none⟩), .pointer (some ⟨w.heap.size + 1 + 1 + 1, 0, none⟩), .pointer (some ⟨w.heap.size + 1 + 1 + 1 + 1, 0, none⟩)], .int .i64 (x.1 : Int), .agg #[.int .u8 ((byteOr old 0 x.1).toNat : Int), .int .u8 ((byteOr a 255 x.1).toNat : Int), .int .u8 ((byteOr b 0 x.1).toNat : Int)], undef, undef, undef, undef, undef, undef, undef, undef, undef, undef, undef, undef, undef, undef, undef, undef], defers := [] })
    (fun x a' _ X Y row hs hg hr => by obtain ⟨Bx, h1, h2, h3⟩ := hs; exact ⟨Bx, h1, blk_own Bx _ (fun (_ : Unit) => #[.int .u8 ((byteOr old 0 x.1).toNat : Int), .int .u8 ((byteOr a 255 x.1).toNat : Int), .int .u8 ((byteOr b 0 x.1).toNat : Int)]) () X Y row h2 hg (fun r e => (hr r e).2), h3⟩)
    ?assign ?body ?done ?stop
  case assign =>
    rintro l pre x W K ⟨⟨bS1, bB1⟩, hB1, hW6⟩ hK
    have hW := hB1.size
    have hW2 := bS1.lt
    gi_wp2
    exact hK _ _ ((KeepsOthers.alloc _ _).from _) ((Mid.refl _ _ W).alloc (by omega) _) ⟨⟨bS1.alloc _, bB1.alloc _⟩, hB1.alloc hB1.size _, by simp; omega⟩ ⟨W.heap.size, by omega, Blk.new W _ _, rfl⟩
  case body =>
    rintro l pre x a' W hl ⟨r, hr⟩ ⟨⟨bS1, bB1⟩, hB1, hW6⟩ ⟨Bx, hBx, bX, rfl⟩ hlt
    have cS := bS1.cell 0
    have cX0 := bX.cell 0
    have cX1 := bX.cell 1
    have cX2 := bX.cell 2
    have hx := x.2
    have hol := outL_length (tornF old a b) pre
    obtain ⟨y, cB⟩ : ∃ y : Int, W.cell? ⟨w.heap.size, x.1, none⟩ = some (.int .u8 y) := ⟨((outL (tornF old a b) pre)[x.1]'(by omega)).toNat, by rw [bB1.cell]; simp [bcells, hol, hx]⟩
    have fB := bB1.frozen x.1
    have hz1 := u8_andNot2 (byteOr old 0 x.1) (byteOr a 255 x.1)
    have hz2 := u8_and2 (byteOr old 0 x.1 &&& ~~~(byteOr a 255 x.1)) (byteOr b 0 x.1)
    have hz := u8_andNot2 (byteOr old 0 x.1) (byteOr old 0 x.1 &&& ~~~(byteOr a 255 x.1) &&& byteOr b 0 x.1)
    have hset := bcells_set (outL (tornF old a b) pre) x.1 (byteOr old 0 x.1 &&& ~~~(byteOr old 0 x.1 &&& ~~~(byteOr a 255 x.1) &&& byteOr b 0 x.1))
    have bB2 := bB1.set x.1 (.int .u8 ((byteOr old 0 x.1 &&& ~~~(byteOr old 0 x.1 &&& ~~~(byteOr a 255 x.1) &&& byteOr b 0 x.1)).toNat : Int))
    have bS2 := bS1.other ⟨w.heap.size, x.1, none⟩ (by simp) (.int .u8 ((byteOr old 0 x.1 &&& ~~~(byteOr old 0 x.1 &&& ~~~(byteOr a 255 x.1) &&& byteOr b 0 x.1)).toNat : Int))
    rw [hset, show outL (tornF old a b) pre = outL (tornF old a b) pre from rfl] at bB2
    have hsn : (outL (tornF old a b) pre).set x.1 (byteOr old 0 x.1 &&& ~~~(byteOr old 0 x.1 &&& ~~~(byteOr a 255 x.1) &&& byteOr b 0 x.1)) = outL (tornF old a b) (pre ++ [x]) := (outL_snoc _ _ _).symm
    rw [hsn] at bB2
    have HB := Lib.hid bB2
    have HS := Lib.hid bS2
    clear bB2 bS2 hset hsn hol bS1 bB1 bX
    obtain ⟨z, hzz⟩ : ∃ z, z = byteOr old 0 x.1 &&& ~~~(byteOr old 0 x.1 &&& ~~~(byteOr a 255 x.1) &&& byteOr b 0 x.1) := ⟨_, rfl⟩
    rw [← hzz] at hz HB HS
    obtain ⟨z1, hzz1⟩ : ∃ z1, z1 = byteOr old 0 x.1 &&& ~~~(byteOr a 255 x.1) := ⟨_, rfl⟩
    obtain ⟨z2, hzz2⟩ : ∃ z2, z2 = z1 &&& byteOr b 0 x.1 := ⟨_, rfl⟩
    rw [← hzz1] at hz1 hz2 hz
    rw [← hzz2] at hz2 hz
    clear hzz hzz1 hzz2
    gi_wp2
    exact ⟨(KeepsOthers.setCell _ _ _).from _, (Mid.refl _ _ W).setCell _ (by simp) _, ⟨⟨HS.out, HB.out⟩, hB1.setCell (p := ⟨w.heap.size, x.1, none⟩) (by simp) _, by rw [World.size_setCell]; exact hW6⟩⟩
  case done =>
    rintro D zs W hD rfl ⟨⟨bS1, bB1⟩, hB1, hW6⟩ hK
    have cS := bS1.cell 0
    have hcv : (convert 47 9 (.slice (some ⟨w.heap.size, 0, none⟩) old.size old.size)).run Try.prog W = .ok (.string ⟨(outL (tornF old a b) (ups old.size old.size)).toArray⟩) W := by
      have hc := conv_cells W w.heap.size 0 old.size (outL (tornF old a b) (ups old.size old.size)) (fun j hj => by rw [Nat.zero_add, bB1.cell]; simp [bcells, hj])
      rw [outL_length] at hc
      exact hc
    gi_wp2
    refine ⟨by simp, .inl ⟨_, _, rfl, run_takeDeferred hK, ?_⟩⟩
    exact ⟨_, results_tmp rfl _ _ _, rfl, hB1.trans (belowK_b (w := w) (Nat.le_refl _) W D _ _ (by omega) hK rfl rfl)⟩
  case stop =>
    rintro D c pre W _ _ h _
    exact h.elim
end Go.Proofs.Ythagnnaemcknfaa
