/- Contracts and plain laws, put together: Bytes, Field, Signed, Fix, Round, Fixed, Fixes, FixR, BankL, BytesApp. -/
import Derived.Test.YtebkeocpojlepaaGreatDoorRows
import Derived.Test.YtebkeocpojlepaaGreatDoorG03
import Derived.WalkSpells
import Derived.WalkLawsBesides
import Derived.Deep.RegionLaw
import Derived.Test.YtebkeocpojlepaaGreatDoorG06
import Derived.Test.YtebkeocpojlepaaGreatDoorG02
import Derived.Laws.Externs
/- Slices of bytes that the call itself makes: owned rows of bytes; append of one byte; string(b). -/
namespace Go.Proofs.YtebkeocpojlepaaGreatDoor
open Go.RowKit

/-- bytes as cells -/
def bcells (l : List UInt8) : List Value := l.map fun b => Value.int .u8 (b.toNat : Int)
theorem bcells_length (l : List UInt8) : (bcells l).length = l.length := by simp [bcells]
theorem bcells_snoc (l : List UInt8) (b : UInt8) : bcells (l ++ [b]) = bcells l ++ [Value.int .u8 (b.toNat : Int)] := by simp [bcells]
theorem bcells_get (l : List UInt8) (j : Nat) : (bcells l)[j]? = (l[j]?).map fun b => Value.int .u8 (b.toNat : Int) := by simp [bcells]

/-- the slice value v owns the bytes l, in blocks from base on -/
def OwnsB (w : World) (base : Nat) (v : Value) (l : List UInt8) : Prop := w.ownsRow base 5 1 v l.length (bcells l)

theorem infoB : (Tryz.prog.info? 5).map (fun i => (i.zero, i.size, i.bytes)) = some (some (.int .u8 0), 1, 1) := by kernel_rfl

theorem OwnsB.snoc {w : World} {base : Nat} {v : Value} {l : List UInt8} {b : UInt8} (h : w.ownsRow base 5 1 v (l.length + 1) (bcells l ++ [Value.int .u8 (b.toNat : Int)])) : OwnsB w base v (l ++ [b]) := by
  unfold OwnsB; rw [bcells_snoc]; simpa using h

theorem OwnsB.below {w w' : World} {base : Nat} {v : Value} {l : List UInt8} (h : OwnsB w base v l) (hb : Below w.heap.size w w') : OwnsB w' base v l := by
  obtain ⟨h1, h2⟩ := h
  refine ⟨h1, ?_⟩
  rcases h2 with h2 | ⟨g, cap, cur, hv, hg, hh, r⟩
  · exact .inl h2
  · have hlt : g < w.heap.size := by
      rcases Nat.lt_or_ge g w.heap.size with h | h
      · exact h
      · rw [Array.getElem?_eq_none h] at hh; cases hh
    exact .inr ⟨g, cap, cur, hv, hg, by rw [hb.block g hlt]; exact hh, r⟩

/-- string(b) of bytes that lie in cells -/
theorem conv_cells (w : World) (g off cap : Nat) (l : List UInt8) (h : ∀ j (hj : j < l.length), w.cell? ⟨g, off + j, none⟩ = some (.int .u8 (l[j].toNat : Int))) :
    (convert 108 9 (.slice (some ⟨g, off, none⟩) l.length cap)).run Tryz.prog w = .ok (.string ⟨l.toArray⟩) w := by
  refine run_convert_bytes_back _ _ _ 5 _ _ l Tryz.underlying108 Tryz.underlying5 Tryz.underlying9 ?_
  intro j hj
  have e : (⟨g, off, none⟩ : Addr).add j = ⟨g, off + j, none⟩ := by simp [Addr.add]
  rw [e]
  exact h j hj

theorem conv_nil (w : World) : (convert 108 9 (.slice none 0 0)).run Tryz.prog w = .ok (.string ⟨#[]⟩) w := by
  rw [run_convert_bytes_string w _ _ 5 none 0 0 Tryz.underlying108 Tryz.underlying5 Tryz.underlying9]
  simp [Conv.bytesToString, go_sem]; rfl

theorem conv_own {w : World} {base : Nat} {v : Value} {l : List UInt8} (h : OwnsB w base v l) :
    (convert 108 9 v).run Tryz.prog w = .ok (.string ⟨l.toArray⟩) w := by
  have h' := h
  obtain ⟨h1, h2⟩ := h
  rcases h2 with ⟨rfl, h0⟩ | ⟨g, cap, cur, rfl, hg, hh, r⟩
  · obtain rfl : l = [] := List.length_eq_zero_iff.1 h0
    exact conv_nil w
  · exact conv_cells w g 0 cap l fun j hj => by
      rw [Nat.zero_add, World.ownsRow.cellAt h' j (by omega), bcells_get]; simp [hj]

theorem own_empty (w : World) (base : Nat) : OwnsB w base (.slice none 0 0) [] := World.ownsRow_nil w base _ 1

theorem OwnsB.base_le {w : World} {base : Nat} {v : Value} {l : List UInt8} (h : OwnsB w base v l) : ∀ k, v.ownBlock = some k → base ≤ k := by
  intro k hk
  obtain ⟨_, h2⟩ := h
  rcases h2 with ⟨rfl, _⟩ | ⟨g, cap, cur, rfl, hg, _⟩
  · simp [Value.ownBlock] at hk
  · simp [Value.ownBlock] at hk; omega

/-- append of one byte to a row of the call's own, as a step of a region. W0: a world in which the row is owned, and below whose size nothing has changed since. -/
theorem step_append_byte {ops : Array Oper} {o : Oper} {a : Act} {w : World} {K : Act → World → Prop} {Q : Exit → Act → World → Prop} {E : Prop}
    (hg : o.guard = none) (s x : Operand) (hop : o.op = Op.call { callee := Callee.builtin Builtin.append, args := #[s, x], argTypes := #[108, 108] })
    {W0 : World} {base : Nat} {v : Value} {l : List UInt8} {b : UInt8} {g : Nat} (hs : a.eval s = v) (hx : a.eval x = .slice (some ⟨g, 0, none⟩) 1 1)
    (hown : OwnsB W0 base v l) (hbw : Below W0.heap.size W0 w) (hc : w.cell? ⟨g, 0, none⟩ = some (.int .u8 (b.toNat : Int))) (hlen : l.length + 1 ≤ 140737488355328) (hbase : base ≤ w.heap.size)
    (hK : ∀ v' w', OwnsB w' base v' (l ++ [b]) → Below base w w' → K (a.put o.dst v') w') :
    if Region.wanted o (yielded ops a.tmps) = true then Oper.wp Tryz.prog o a w K Q else E := by
  have hw : Region.wanted o (yielded ops a.tmps) = true := by simp [Region.wanted, hg]
  rw [if_pos hw]
  obtain ⟨i0, hi, hz0, hz1, hz2⟩ := info_parts infoB
  have hown' := hown.below hbw
  refine wp_append_own w s x 108 hop base 5 i0 (.int .u8 0) 1 1 Tryz.underlying108 hi hz0 hz1 hz2 rfl (by decide) v l.length (bcells l) hs hown' ⟨g, 0, none⟩ 1 1 [.int .u8 (b.toNat : Int)] hx rfl ?_ ?_ ?_ (by omega) hbase ?_
  · intro j u hj
    match j, hj with
    | 0, hj => simp at hj; subst hj; simpa [Addr.add] using hc
    | j + 1, hj => simp at hj
  · intro u hu; simp at hu; subst hu; rfl
  · unfold maxLen; omega
  · intro v' w' h2 h3 _
    exact hK v' w' (OwnsB.snoc h2) ((Below.refl base w).grown h3 hbase (fun k e => OwnsB.base_le hown k e))

/-- block T holds these bytes, and none of them is frozen -/
def Row (w : World) (T : Nat) (l : List UInt8) : Prop := ∀ j (hj : j < l.length), w.cell? ⟨T, j, none⟩ = some (.int .u8 (l[j].toNat : Int)) ∧ w.frozen? ⟨T, j, none⟩ = false

theorem Row.set {w : World} {T : Nat} {l : List UInt8} (h : Row w T l) (j : Nat) (b : UInt8) : Row (w.setCell ⟨T, j, none⟩ (.int .u8 (b.toNat : Int))) T (l.set j b) := by
  intro i hi
  rw [List.length_set] at hi
  refine ⟨?_, by rw [World.frozen?_setCell]; exact (h i hi).2⟩
  by_cases e : j = i
  · subst e
    rw [World.cell?_setCell_same' _ _ _ (by rw [(h j hi).1]; rfl)]
    simp
  · rw [World.cell?_setCell_other _ _ _ _ (by intro e2; cases e2; exact e rfl), (h i hi).1]
    simp [e]

theorem Row.other {w : World} {T : Nat} {l : List UInt8} (h : Row w T l) (a : Addr) (ha : a.block ≠ T) (v : Value) : Row (w.setCell a v) T l := by
  intro i hi
  refine ⟨?_, by rw [World.frozen?_setCell]; exact (h i hi).2⟩
  rw [World.cell?_setCell_other _ _ _ _ (by intro e2; subst e2; exact ha rfl)]
  exact (h i hi).1

theorem Row.drew {w : World} {T : Nat} {l : List UInt8} (h : Row w T l) : Row w.drew T l := h

theorem Row.below {w w' : World} {T B : Nat} {l : List UInt8} (h : Row w T l) (hb : Below B w w') (hT : T < B) : Row w' T l :=
  fun i hi => ⟨(hb.cell (p := ⟨T, i, none⟩) hT).trans (h i hi).1, (hb.frozen (p := ⟨T, i, none⟩) hT).trans (h i hi).2⟩

/-- []byte(s) -/
theorem Row.ofString (w : World) (s : ByteArray) (c : Nat) (fr : Nat) (hfr : s.size ≤ fr) :
    Row (w.alloc (.cells (bytesRow s c) 5 (fr, fr + 1))) w.heap.size s.data.toList := by
  intro i hi
  have hi' : i < s.size := by simpa using hi
  constructor
  · rw [World.cell?_alloc_mark]
    unfold bytesRow
    rw [Array.getElem?_append_left (by simpa using hi')]
    simp [hi']
  · have hh : (w.alloc (.cells (bytesRow s c) 5 (fr, fr + 1))).heap[w.heap.size]? = some (.cells (bytesRow s c) 5 (fr, fr + 1)) := heap_alloc_new w _
    unfold World.frozen?
    rw [hh]
    simp
    omega

theorem bytesRow_size (s : ByteArray) (c : Nat) : s.size ≤ (bytesRow s c).size := by
  unfold bytesRow; rw [Array.size_append]; simp

/-- a block of cells, none of them frozen -/
def Blk (W : World) (B : Nat) (t : TypeId) (cs : Array Value) : Prop := W.heap[B]? = some (.cells cs t (0, 0))

theorem Blk.lt {W : World} {B : Nat} {t : TypeId} {cs : Array Value} (h : Blk W B t cs) : B < W.heap.size := (Array.getElem?_eq_some_iff.1 h).1
theorem Blk.cell {W : World} {B : Nat} {t : TypeId} {cs : Array Value} (h : Blk W B t cs) (j : Nat) : W.cell? ⟨B, j, none⟩ = cs[j]? := cell_of_row W B j cs t (0, 0) h
theorem Blk.frozen {W : World} {B : Nat} {t : TypeId} {cs : Array Value} (h : Blk W B t cs) (j : Nat) : W.frozen? ⟨B, j, none⟩ = false := frozen_of_row W B j cs t h
theorem Blk.new (W : World) (t : TypeId) (cs : Array Value) : Blk (W.alloc (.cells cs t)) W.heap.size t cs := heap_alloc_new W _
theorem Blk.alloc {W : World} {B : Nat} {t : TypeId} {cs : Array Value} (h : Blk W B t cs) (o : Obj) : Blk (W.alloc o) B t cs := (Below.heap_alloc W o B h.lt).trans h
theorem Blk.drew {W : World} {B : Nat} {t : TypeId} {cs : Array Value} (h : Blk W B t cs) : Blk W.drew B t cs := h
theorem Blk.set {W : World} {B : Nat} {t : TypeId} {cs : Array Value} (h : Blk W B t cs) (j : Nat) (v : Value) : Blk (W.setCell ⟨B, j, none⟩ v) B t (cs.setIfInBounds j v) := heap_setCell_same W B j cs t v h
theorem Blk.other {W : World} {B : Nat} {t : TypeId} {cs : Array Value} (h : Blk W B t cs) (a : Addr) (ha : B ≠ a.block) (v : Value) : Blk (W.setCell a v) B t cs := (heap_setCell_other W a B v ha).trans h
theorem Blk.below {W W' : World} {B B' : Nat} {t : TypeId} {cs : Array Value} (h : Blk W B t cs) (hb : Below B' W W') (hB : B < B') : Blk W' B t cs := (hb.block B hB).trans h

theorem bcells_set (l : List UInt8) (j : Nat) (b : UInt8) : (bcells l).toArray.setIfInBounds j (.int .u8 (b.toNat : Int)) = (bcells (l.set j b)).toArray := by
  simp [bcells]

/-- make([]byte, n) -/
theorem mk_bytes (n : Nat) (hn : n ≤ 140737488355328) (w : World) :
    (Instr.makeSlice 108 (.int .i64 (n : Int)) (.int .i64 (n : Int))).run Tryz.prog w = .ok (.slice (some ⟨w.heap.size, 0, none⟩) n n) (w.alloc (.cells (bcells (List.replicate n 0)).toArray 5)) := by
  obtain ⟨i0, hi, hz0, hz1, hz2⟩ := info_parts infoB
  have hr := run_make (P := Tryz.prog) w 108 5 i0 (.int .u8 0) Tryz.underlying108 hi hz0 .i64 .i64 (n : Int) (n : Int) (by omega) (Int.le_refl _) (by rw [hz2]; omega) (by omega)
  rw [hr, hz1]
  have e : madeCells (Value.int IntKind.u8 0).cells (n * 1) = (bcells (List.replicate n 0)).toArray := by
    apply Array.ext'
    rw [Nat.mul_one]
    show (madeCells #[Value.int IntKind.u8 0] n).toList = _
    rw [toList_madeCells_one]
    simp [bcells]
  rw [Int.toNat_natCast, e]

end Go.Proofs.YtebkeocpojlepaaGreatDoor

/- field.Put, field.Get: what each answers (widths from 0 to 8; texts of up to 8 bytes). -/
namespace Go.Proofs.YtebkeocpojlepaaGreatDoor
open Go.RowKit
set_option linter.unusedVariables false
set_option linter.unusedSimpArgs false

/-- the lowest w bytes of a number, the highest one first -/
def putL (n : Nat) : Nat → List UInt8
  | 0 => []
  | w + 1 => putL (n / 256) w ++ [UInt8.ofNat n]
theorem putL_length (n w : Nat) : (putL n w).length = w := by induction w generalizing n with | zero => rfl | succ w ih => simp [putL, ih]
def putB (n w : Nat) : ByteArray := ⟨(putL n w).toArray⟩
theorem putB_size (n w : Nat) : (putB n w).size = w := by show (putL n w).toArray.size = w; simp [putL_length]

/-- the number of bytes -/
def getL (l : List UInt8) : Nat := l.foldl (fun n b => n * 256 + b.toNat) 0
theorem getL_snoc (l : List UInt8) (b : UInt8) : getL (l ++ [b]) = getL l * 256 + b.toNat := by simp [getL]
theorem snoc_ind {α : Type} {M : List α → Prop} (h0 : M []) (hs : ∀ l b, M l → M (l ++ [b])) (l : List α) : M l := by
  rw [← List.reverse_reverse l]
  induction l.reverse with
  | nil => exact h0
  | cons a m ih => rw [List.reverse_cons]; exact hs _ _ ih
theorem getL_lt (l : List UInt8) : getL l < 256 ^ l.length := by
  induction l using snoc_ind with
  | h0 => simp [getL]
  | hs l b ih =>
    rw [getL_snoc, List.length_append, List.length_singleton, Nat.pow_succ]
    have := b.toNat_lt
    omega
def getN (s : ByteArray) : Nat := getL s.data.toList

theorem getL_putL (n w : Nat) : getL (putL n w) = n % 256 ^ w := by
  induction w generalizing n with
  | zero => simp [putL, getL, Nat.mod_one]
  | succ w ih =>
    rw [putL, getL_snoc, ih, Nat.pow_succ, Nat.mul_comm (256 ^ w), Nat.mod_mul]
    have : (UInt8.ofNat n).toNat = n % 256 := by simp
    rw [this]; omega

theorem getL_inj (l m : List UInt8) (h : l.length = m.length) (hg : getL l = getL m) : l = m := by
  induction l using snoc_ind generalizing m with
  | h0 => cases m with | nil => rfl | cons a m => simp at h
  | hs l b ih =>
    rcases List.eq_nil_or_concat m with rfl | ⟨m', c, rfl⟩
    · simp at h
    · rw [getL_snoc, List.concat_eq_append, getL_snoc] at hg
      have h1 := b.toNat_lt
      have h2 := c.toNat_lt
      have e1 : getL l = getL m' := by omega
      have e2 : b.toNat = c.toNat := by omega
      rw [ih m' (by simpa using h) e1, UInt8.toNat_inj.1 e2, List.concat_eq_append]

/-- what lies in the row behind k rounds -/
def putR (n w k : Nat) : List UInt8 := List.replicate (w - k) 0 ++ putL (n % 256 ^ k) k
theorem putL_mod (n w : Nat) : putL (n % 256 ^ w) w = putL n w := getL_inj _ _ (by rw [putL_length, putL_length]) (by rw [getL_putL, getL_putL, Nat.mod_mod])
theorem putL_cons (n k : Nat) : putL n (k + 1) = UInt8.ofNat (n / 256 ^ k) :: putL n k := by
  induction k generalizing n with
  | zero => simp [putL]
  | succ k ih =>
    rw [putL, ih, putL, List.cons_append]
    congr 2
    rw [Nat.div_div_eq_div_mul, Nat.pow_succ, Nat.mul_comm]
theorem putR_set (n w k : Nat) (h : k < w) : (putR n w k).set (w - 1 - k) (UInt8.ofNat (n / 256 ^ k)) = putR n w (k + 1) := by
  unfold putR
  rw [putL_mod, putL_mod, putL_cons, show w - k = (w - (k + 1)) + 1 by omega, List.replicate_succ', List.append_assoc]
  rw [List.set_append_right _ _ (by simp; omega)]
  simp [show w - 1 - k - (w - (k + 1)) = 0 by omega]
theorem putR_full (n w : Nat) : putR n w w = putL n w := by unfold putR; rw [putL_mod]; simp
theorem putR_zero (n w : Nat) : putR n w 0 = List.replicate w 0 := by simp [putR, putL]
theorem putR_length (n w k : Nat) (h : k ≤ w) : (putR n w k).length = w := by simp [putR, putL_length]; omega

set_option maxHeartbeats 1000000 in
theorem Put_any (n w : Nat) (hn : n < 18446744073709551616) (hw : w ≤ 8) (W : World) :
    Calls Tryz.prog 68 #[.int .u64 (n : Int), .int .i64 (w : Int)] W fun e w' => e = .returned (.string (putB n w)) ∧ Below W.heap.size W w' := by
  have hmk := mk_bytes w (by omega)
  have hmx : max (w : Int) 0 = (w : Int) := by omega
  have hmn : min (w : Int) 8 = (w : Int) := by omega
  go_enter Tryz.func68, Tryz.ntmps68
  go_wp2
  have b0 := Blk.new W 5 (bcells (List.replicate w 0)).toArray
  have hB0 : Below W.heap.size W (W.alloc (.cells (bcells (List.replicate w 0)).toArray 5)) := (Below.refl _ W).alloc (Nat.le_refl _) _
  rw [← putR_zero n w] at b0 hB0
  simp only [← putR_zero n w]
  generalize (W.alloc (.cells (bcells (putR n w 0)).toArray 5)) = W1 at *
  go_loopw [0, 13] (fun m i wr => ∃ k : Nat, k ≤ w ∧ i = .int .i64 k ∧ m = .int .u64 ((n / 256 ^ k : Nat) : Int) ∧ Blk wr W.heap.size 5 (bcells (putR n w k)).toArray ∧ Below W.heap.size W wr) (fun _ i _ => w - (intOf i).toNat)
  case atStart => exact ⟨0, by omega, rfl, by simp, b0, hB0⟩
  case round =>
    obtain ⟨k, hk, rfl, rfl, bR, hbr⟩ := hrel
    by_cases hlt : k < w
    · have hol := putR_length n w k hk
      obtain ⟨m, hm⟩ : ∃ m, m = n / 256 ^ k := ⟨_, rfl⟩
      have hm2 : n / 256 ^ (k + 1) = m / 256 := by rw [hm, Nat.div_div_eq_div_mul, Nat.pow_succ]
      have hmlt : m < 18446744073709551616 := by rw [hm]; exact Nat.lt_of_le_of_lt (Nat.div_le_self _ _) hn
      have cS : wr.cell? ⟨W.heap.size, w - 1 - k, none⟩ = some (.int .u8 (((putR n w k)[w - 1 - k]'(by omega)).toNat : Int)) := by rw [bR.cell]; simp [bcells, hol, show w - 1 - k < w by omega]
      have fS := bR.frozen (w - 1 - k)
      have hset := bcells_set (putR n w k) (w - 1 - k) (UInt8.ofNat m)
      have bR2 := bR.set (w - 1 - k) (.int .u8 ((UInt8.ofNat m).toNat : Int))
      rw [hset, hm, putR_set n w k hlt, ← hm] at bR2
      have q0 : IntKind.i64.wrap ((w : Int) - 1) = (w : Int) - 1 := IntWalk.i64_in _ (by omega)
      have q1 : IntKind.i64.wrap (IntKind.i64.wrap ((w : Int) - 1) - (k : Int)) = ((w - 1 - k : Nat) : Int) := by rw [q0, IntWalk.i64_in _ (by omega)]; omega
      have hu8 : (((UInt8.ofNat m).toNat : Nat) : Int) = (m : Int) % 256 := by simp
      rw [hu8] at bR2
      have HB := Lib.hid bR2
      have HL := Lib.hid (hbr.setCell (p := ⟨W.heap.size, w - 1 - k, none⟩) (by simp) (.int .u8 ((m : Int) % 256)))
      have HM := Lib.hid hm2
      clear bR2 hu8
      simp only [← hm]
      clear hset bR hm hm2
      go_wp2
      go_roundw
      case rel => exact ⟨k + 1, by omega, by go_num, by rw [HM.out]; go_num, HB.out, HL.out⟩
      case measure => simp [intOf]; omega
    · have hk2 : k = w := by omega
      subst hk2
      have hcv := conv_cells wr W.heap.size 0 k (putR n k k) (fun j hj => by rw [Nat.zero_add, bR.cell]; simp [bcells, hj])
      rw [putR_length n k k (Nat.le_refl _), putR_full] at hcv
      go_wp2
      go_ret
      exact ⟨rfl, hbr⟩

set_option maxHeartbeats 1000000 in
theorem Get_any (s : ByteArray) (hs : s.size ≤ 8) (W : World) :
    Calls Tryz.prog 67 #[.string s] W fun e w' => e = .returned (.int .u64 (getN s : Int)) ∧ W = w' := by
  go_enter Tryz.func67, Tryz.ntmps67
  go_wp2
  go_loopw [2, 6] (fun m i wr => ∃ k : Nat, k ≤ s.size ∧ i = .int .i64 k ∧ m = .int .u64 ((getL (s.data.toList.take k) : Nat) : Int) ∧ wr = W) (fun _ i _ => s.size - (intOf i).toNat)
  case atStart => exact ⟨0, by omega, rfl, rfl, rfl⟩
  case round =>
    obtain ⟨k, hk, rfl, rfl, rfl⟩ := hrel
    by_cases hlt : k < s.size
    · have hb := Crc.byte_at s k hlt
      have hg := getL_lt (s.data.toList.take k)
      have hl : (s.data.toList.take k).length = k := by simp; omega
      have hsn : getL (s.data.toList.take (k + 1)) = getL (s.data.toList.take k) * 256 + s[k].toNat := by rw [hb, getL_snoc]
      rw [hl] at hg
      have hp : 256 ^ k ≤ 256 ^ 7 := Nat.pow_le_pow_right (by decide) (by omega)
      have h8 := s[k].toNat_lt
      obtain ⟨n, hn⟩ : ∃ n, n = getL (s.data.toList.take k) := ⟨_, rfl⟩
      rw [← hn] at hg hsn
      simp only [← hn]
      have hn7 : n < 72057594037927936 := by have : (256 : Nat) ^ 7 = 72057594037927936 := by decide
                                             omega
      have HN := Lib.hid hsn
      clear hn hsn hg hp hb hl
      go_wp2
      go_roundw
      case rel => exact ⟨k + 1, by omega, by go_num, by rw [HN.out]; go_num, by trivial⟩
      case measure => simp [intOf]; omega
    · have hk2 : k = s.size := by omega
      subst hk2
      have ht : getL (s.data.toList.take s.size) = getN s := by unfold getN; rw [List.take_of_length_le (by simp)]
      simp only [ht]
      go_wp2
      go_ret
      exact ⟨rfl, rfl⟩
end Go.Proofs.YtebkeocpojlepaaGreatDoor

/- field.Signed at three bytes. -/
namespace Go.Proofs.YtebkeocpojlepaaGreatDoor
open Go.RowKit
set_option linter.unusedVariables false
set_option linter.unusedSimpArgs false

theorem spare_any (b : Nat) (W : World) (hc : W.cell? ⟨b, 0, none⟩ = some (.int .i64 3)) :
    Calls Tryz.prog 70 #[.pointer (some ⟨b, 0, none⟩)] W fun e w' => e = .returned (.int .i64 40) ∧ W = w' := by
  go_enter Tryz.func70, Tryz.ntmps70
  go_wp2
  go_ret
  exact ⟨rfl, rfl⟩

/-- the number that three bytes of two's complement stand for -/
def signed3 (n : Nat) : Int := wrap64 (IntKind.u64.wrap ((n : Int) * 1099511627776)) / 1099511627776
theorem signed3_eq (n : Nat) : signed3 n = if n % 16777216 < 8388608 then ((n % 16777216 : Nat) : Int) else ((n % 16777216 : Nat) : Int) - 16777216 := by
  unfold signed3
  have h : IntKind.u64.wrap ((n : Int) * 1099511627776) = ((n % 16777216 : Nat) : Int) * 1099511627776 := by
    show ((n : Int) * 1099511627776) % 18446744073709551616 = _
    omega
  rw [h]
  have h2 : n % 16777216 < 16777216 := Nat.mod_lt _ (by decide)
  generalize n % 16777216 = m at *
  split
  · rw [show wrap64 ((m : Int) * 1099511627776) = (m : Int) * 1099511627776 by unfold wrap64; omega]
    omega
  · rw [show wrap64 ((m : Int) * 1099511627776) = (m : Int) * 1099511627776 - 18446744073709551616 by unfold wrap64; omega]
    omega

set_option maxHeartbeats 1000000 in
theorem Signed_any (n : Nat) (hn : n < 18446744073709551616) (w : World) :
    Calls Tryz.prog 44 #[.int .u64 (n : Int), .int .i64 3] w fun e w' => e = .returned (.int .i64 (signed3 n)) ∧ Below w.heap.size w w' := by
  have k0 := Blk.new w 3 #[.int .i64 3]
  have B0 : Below w.heap.size w (w.alloc (.cells #[.int .i64 3] 3)) := (Below.refl _ w).alloc (Nat.le_refl _) _
  have hz : w.heap.size + 1 = (w.alloc (.cells #[.int .i64 3] 3)).heap.size := by simp
  go_enter Tryz.func44, Tryz.ntmps44
  go_wp2_with fail
  generalize (w.alloc (.cells #[.int .i64 3] 3)) = W1 at *
  have hcl : ∀ m : CalmW W1.heap.size W1, m.val.cell? ⟨w.heap.size, 0, none⟩ = some (.int .i64 3) := fun m => (k0.below m.below (by omega)).cell 0
  (refine wp_region_calm (W1.heap.size) (by kernel_rfl) (by kernel_rfl) ?_; (repeat (go_big_quiet_step ((with_reducible refine calm_same (spare_any _ _ (hcl _)))))); refine wpQuiet_nil ?_; intro W2 hw'; obtain ⟨⟨_, hW2⟩, hw''⟩ := hw'; subst hw'')
  go_wp2
  go_ret
  exact ⟨ret_int rfl, B0.trans (hW2.mono (by omega))⟩
end Go.Proofs.YtebkeocpojlepaaGreatDoor

/- math.IsNaN, IsInf, Signbit, Abs, Round, fixed.Class: what they answer. -/
namespace Go.Proofs.YtebkeocpojlepaaGreatDoor
open Go.RowKit Ieee
set_option linter.unusedVariables false
set_option linter.unusedSimpArgs false

theorem run_bits (b : Nat) (w : World) : (callFunc 111 #[.float .f64 b]).run Tryz.prog w = .ok (.value (.int .u64 (b : Int))) w := by
  rw [run_callFunc_extern Tryz.func111 (by kernel_rfl) (by kernel_rfl) (by kernel_rfl) (e := Extern.MathFloatBits.float64bits) (by kernel_rfl)]
  rfl
theorem run_frombits (b : Nat) (w : World) : (callFunc 110 #[.int .u64 (b : Int)]).run Tryz.prog w = .ok (.value (.float .f64 b)) w := by
  rw [run_callFunc_extern Tryz.func110 (by kernel_rfl) (by kernel_rfl) (by kernel_rfl) (e := Extern.MathFloatBits.float64frombits) (by kernel_rfl)]
  rfl

theorem order_nan (x y : Nat) (h : 9218868437227405312 < rungF x) : Ieee.double.order x y = none := by
  obtain ⟨s, f, e⟩ := read_nan x h
  unfold Format.order
  rw [e]; rfl
theorem order_self (x : Nat) : (FloatKind.f64.format.order x x != some .eq) = decide (9218868437227405312 < rungF x) := by
  show (Ieee.double.order x x != some .eq) = _
  by_cases h : 9218868437227405312 < rungF x
  · rw [order_nan x x h]; simp [h]
  · by_cases h2 : rungF x = 9218868437227405312
    · unfold Format.order
      rw [read_infinity x h2]
      simp [Datum.order, h]
    · have := order_eq x x (by omega) (by omega)
      simp only [bne, this]
      simp [h]

theorem IsNaN_any (x : Nat) (w : World) : Calls Tryz.prog 107 #[.float .f64 x] w fun e w' => e = .returned (.bool (decide (9218868437227405312 < rungF x))) ∧ Below w.heap.size w w' := by
  have hs := order_self x
  go_enter Tryz.func107, Tryz.ntmps107
  go_wp2
  go_ret
  exact ⟨rfl, Below.refl _ _⟩

theorem run_neg (x : Nat) (w : World) : (Op.unary UnOp.neg (Value.float .f64 x)).run Tryz.prog w = .ok (.float .f64 (Op.negFloat .f64 x)) w := by
  unfold Op.unary; rfl
/-- what math.IsInf answers -/
def infB (x : Nat) (s : Int) : Bool := if s = 1 then (Ieee.double.order x 9218868437227405311 == some .gt) else (Ieee.double.order (Op.negFloat .f64 x) 9218868437227405311 == some .gt)
theorem IsInf_any (x : Nat) (s : Int) (h : s = 1 ∨ s = -1) (w : World) : Calls Tryz.prog 108 #[.float .f64 x, .int .i64 s] w fun e w' => e = .returned (.bool (infB x s)) ∧ Below w.heap.size w w' := by
  rcases h with rfl | rfl
  · have h1 : infB x 1 = (FloatKind.f64.format.order x 9218868437227405311 == some .gt) := rfl
    go_enter Tryz.func108, Tryz.ntmps108
    go_wp2
    go_ret
    exact ⟨rfl, Below.refl _ _⟩
  · have h1 : infB x (-1) = (FloatKind.f64.format.order (Op.negFloat .f64 x) 9218868437227405311 == some .gt) := rfl
    have h2 := run_neg x
    generalize Op.negFloat .f64 x = y at *
    go_enter Tryz.func108, Tryz.ntmps108
    go_wp2
    go_ret
    exact ⟨congrArg (fun b => Ending.returned (.bool b)) h1.symm, Below.refl _ _⟩

theorem Signbit_any (x : Nat) (w : World) : Calls Tryz.prog 109 #[.float .f64 x] w fun e w' => ∃ b, e = .returned (.bool b) ∧ Below w.heap.size w w' := by
  have hb := run_bits x
  go_enter Tryz.func109, Tryz.ntmps109
  go_wp2
  go_ret
  exact ⟨_, rfl, Below.refl _ _⟩

theorem u64_wrap (n : Nat) (h : n < 18446744073709551616) : IntKind.u64.wrap (n : Int) = (n : Int) := by
  show (n : Int) % 18446744073709551616 = _
  omega
theorem of64 (n : Nat) (h : n < 18446744073709551616) : (BitVec.ofInt IntKind.u64.bits (n : Int)).toNat = n := by
  show (BitVec.ofInt 64 (n : Int)).toNat = n
  rw [BitVec.toNat_ofInt]; omega
theorem not64 (a b : Nat) (ha : a < 18446744073709551616) (hb : b < 18446744073709551616) (c : Nat) (hc : c < 18446744073709551616)
    (h : ∀ i, i < 64 → c.testBit i = (a.testBit i && !b.testBit i)) : bits .andNot .u64 (a : Int) (b : Int) = (c : Int) := by
  have e : (BitVec.ofInt IntKind.u64.bits (a : Int) &&& ~~~BitVec.ofInt IntKind.u64.bits (b : Int)).toNat = c := by
    refine Nat.eq_of_testBit_eq fun i => ?_
    show (BitVec.ofInt 64 (a : Int) &&& ~~~BitVec.ofInt 64 (b : Int)).toNat.testBit i = _
    have ea : (BitVec.ofInt 64 (a : Int)).toNat = a := of64 a ha
    have eb : (BitVec.ofInt 64 (b : Int)).toNat = b := of64 b hb
    by_cases hi : i < 64
    · rw [h i hi, ← BitVec.getLsbD, BitVec.getLsbD_and, BitVec.getLsbD_not, BitVec.getLsbD, BitVec.getLsbD, ea, eb]
      simp [hi]
    · rw [← BitVec.getLsbD, BitVec.getLsbD_of_ge _ _ (by omega), Nat.testBit_lt_two_pow (Nat.lt_of_lt_of_le hc (show 2 ^ 64 ≤ 2 ^ i from Nat.pow_le_pow_right (by decide) (by omega)))]
  show IntKind.u64.wrap ((BitVec.ofInt IntKind.u64.bits (a : Int) &&& ~~~BitVec.ofInt IntKind.u64.bits (b : Int)).toNat : Int) = _
  rw [e]; exact u64_wrap c hc
theorem not_top (a : Nat) (ha : a < 18446744073709551616) : bits .andNot .u64 (a : Int) 9223372036854775808 = ((rungF a : Nat) : Int) := by
  refine not64 a 9223372036854775808 ha (by decide) (rungF a) (by unfold rungF; omega) fun i hi => ?_
  unfold rungF
  rw [show (9223372036854775808 : Nat) = 2 ^ 63 by decide, Nat.testBit_mod_two_pow, Nat.testBit_two_pow]
  by_cases c : i < 63
  · simp [c]; intro; omega
  · have : i = 63 := by omega
    subst this; simp
theorem not_low (a t : Nat) (ht : t ≤ 63) (ha : a < 18446744073709551616) : bits .andNot .u64 (a : Int) ((2 ^ t - 1 : Nat) : Int) = ((a / 2 ^ t * 2 ^ t : Nat) : Int) := by
  have h1 : 2 ^ t ≤ 2 ^ 63 := Nat.pow_le_pow_right (by decide) ht
  have h2 : a / 2 ^ t * 2 ^ t ≤ a := Nat.div_mul_le_self _ _
  refine not64 a (2 ^ t - 1) ha (by omega) _ (by omega) fun i hi => ?_
  rw [Nat.testBit_mul_two_pow, Nat.testBit_div_two_pow, Nat.testBit_two_pow_sub_one]
  by_cases c : t ≤ i
  · simp [c, show ¬ i < t by omega, show t + (i - t) = i by omega, show i - t + t = i by omega]
  · simp [c, show i < t by omega]
theorem and_top (a : Nat) (ha : a < 18446744073709551616) : bits .and .u64 (a : Int) 9223372036854775808 = ((a / 9223372036854775808 * 9223372036854775808 : Nat) : Int) := by
  have h := (bits_nat .u64 64 (by decide) (fun n h0 h1 => by show n % 18446744073709551616 = _; omega) a 9223372036854775808 ha (by decide)).1
  refine h.trans ?_
  congr 1
  refine Nat.eq_of_testBit_eq fun i => ?_
  rw [Nat.testBit_and, show (9223372036854775808 : Nat) = 2 ^ 63 by decide, Nat.testBit_mul_two_pow, Nat.testBit_div_two_pow, Nat.testBit_two_pow]
  by_cases c : 63 ≤ i
  · by_cases c2 : i = 63
    · subst c2; simp
    · rw [show i - 63 + 63 = i by omega, Nat.testBit_lt_two_pow (Nat.lt_of_lt_of_le ha (show 2 ^ 64 ≤ 2 ^ i from Nat.pow_le_pow_right (by decide) (by omega)))]
      simp
  · simp [c]; intro; omega
theorem and_field (a : Nat) (ha : a < 18446744073709551616) : bits .and .u64 ((a / 4503599627370496 : Nat) : Int) 2047 = ((rungF a / 4503599627370496 : Nat) : Int) := by
  have h := (bits_nat .u64 64 (by decide) (fun n h0 h1 => by show n % 18446744073709551616 = _; omega) (a / 4503599627370496) 2047 (by omega) (by decide)).1
  refine h.trans ?_
  congr 1
  rw [show (2047 : Nat) = 2 ^ 11 - 1 by decide, Nat.and_two_pow_sub_one_eq_mod]
  unfold rungF
  show a / 4503599627370496 % 2048 = _
  omega
theorem or_one (a : Nat) (ha : a < 18446744073709551616) : bits .or .u64 ((a / 9223372036854775808 * 9223372036854775808 : Nat) : Int) 4607182418800017408 = ((a / 9223372036854775808 * 9223372036854775808 + 4607182418800017408 : Nat) : Int) := by
  have h := bits_join .u64 64 (by decide) (fun n h0 h1 => by show n % 18446744073709551616 = _; omega) 63 ((a / 9223372036854775808 * 9223372036854775808 : Nat) : Int) 4607182418800017408 (by omega) (by omega) (by omega) (by decide) (by decide) (by decide)
  rw [h]; omega

set_option maxRecDepth 100000 in
theorem Abs_any (x : Nat) (hx : x < 18446744073709551616) (w : World) : Calls Tryz.prog 86 #[.float .f64 x] w fun e w' => e = .returned (.float .f64 (rungF x)) ∧ Below w.heap.size w w' := by
  have hb := run_bits x
  have hf := run_frombits (rungF x)
  have hn := not_top x hx
  go_enter Tryz.func86, Tryz.ntmps86
  go_wp2
  go_ret
  exact ⟨rfl, Below.refl _ _⟩
end Go.Proofs.YtebkeocpojlepaaGreatDoor

/- math.Round of a number below 2 to the 21. -/
namespace Go.Proofs.YtebkeocpojlepaaGreatDoor
open Go.RowKit Ieee
set_option linter.unusedVariables false
set_option linter.unusedSimpArgs false

theorem word_top (y r : Nat) (hy : y < 18446744073709551616) : Ieee.double.word (negF y) r = y / 9223372036854775808 * 9223372036854775808 + r := by
  unfold Format.word negF; rw [dbl_sign]
  by_cases c : (y / 9223372036854775808 % 2 == 1) = true
  · rw [if_pos c]; simp at c; omega
  · rw [if_neg c]; simp at c; omega
theorem round_top (y t : Nat) (ht : t + 1 ≤ 52) : (y + 2 ^ t) / 2 ^ (t + 1) * 2 ^ (t + 1) = y / 9223372036854775808 * 9223372036854775808 + (rungF y + 2 ^ t) / 2 ^ (t + 1) * 2 ^ (t + 1) := by
  have hC : (9223372036854775808 : Nat) = 2 ^ (t + 1) * 2 ^ (62 - t) := by rw [← Nat.pow_add, show t + 1 + (62 - t) = 63 by omega]
  have hd : y = rungF y + 9223372036854775808 * (y / 9223372036854775808) := by unfold rungF; omega
  have hp := Nat.two_pow_pos (t + 1)
  generalize rungF y = r at *
  generalize y / 9223372036854775808 = q at *
  have e : y + 2 ^ t = (r + 2 ^ t) + 2 ^ (t + 1) * (2 ^ (62 - t) * q) := by rw [← Nat.mul_assoc, ← hC]; omega
  rw [e, Nat.add_mul_div_left _ _ hp, Nat.add_mul, Nat.mul_comm (2 ^ (62 - t) * q), ← Nat.mul_assoc, ← hC]
  omega

set_option maxRecDepth 100000 in
set_option maxHeartbeats 4000000 in
theorem Round_any (y : Nat) (hy : y < 18446744073709551616) (hr : rungF y < 4701758010974797824) (w : World) :
    Calls Tryz.prog 87 #[.float .f64 y] w fun e w' => e = .returned (.float .f64 (Ieee.double.word (negF y) (roundR (rungF y)))) ∧ Below w.heap.size w w' := by
  have hb := run_bits y
  have hf := run_frombits (Ieee.double.word (negF y) (roundR (rungF y)))
  have ht := word_top y (roundR (rungF y)) hy
  have h1 : bits .and .u64 ((y : Int) / 4503599627370496) 2047 = ((rungF y / 4503599627370496 : Nat) : Int) := and_field y hy
  have h2 := and_top y hy
  have h3 := or_one y hy
  obtain ⟨e, he⟩ : ∃ e, e = rungF y / 4503599627370496 := ⟨_, rfl⟩
  rw [← he] at h1
  unfold roundR at hf ht ⊢
  rw [← he] at hf ht ⊢
  by_cases c1 : e < 1022
  · rw [if_pos c1] at hf ht ⊢
    rw [ht] at hf ⊢
    rw [Nat.add_zero] at hf ⊢
    generalize y / 9223372036854775808 * 9223372036854775808 = z at *
    have d1 : (e : Int) < 1023 := by omega
    have d2 : ¬ (e : Int) = 1022 := by omega
    clear h3 ht he hr
    go_enter Tryz.func87, Tryz.ntmps87
    go_wp2
    go_ret
    exact ⟨rfl, Below.refl _ _⟩
  · rw [if_neg c1] at hf ht ⊢
    by_cases c2 : e = 1022
    · rw [if_pos c2] at hf ht ⊢
      rw [ht] at hf ⊢
      generalize y / 9223372036854775808 * 9223372036854775808 + 4607182418800017408 = z2 at *
      generalize y / 9223372036854775808 * 9223372036854775808 = z at *
      subst c2
      clear ht he hr
      go_enter Tryz.func87, Tryz.ntmps87
      go_wp2
      go_ret
      exact ⟨rfl, Below.refl _ _⟩
    · rw [if_neg c2] at hf ht ⊢
      obtain ⟨k, hk, rfl⟩ : ∃ k, k ≤ 20 ∧ e = 1023 + k := ⟨e - 1023, by omega, by omega⟩
      have n1 := not_low (y + 2 ^ (51 - k)) (52 - k) (by omega) (by
        have : 2 ^ (51 - k) ≤ 2 ^ 51 := Nat.pow_le_pow_right (by decide) (by omega)
        have : y % 9223372036854775808 < 4701758010974797824 := hr
        omega)
      have n2 := round_top y (51 - k) (by omega)
      have e1 : 1074 - (1023 + k) = 51 - k := by omega
      have e2 : 1075 - (1023 + k) = 51 - k + 1 := by omega
      have e3 : 52 - k = 51 - k + 1 := by omega
      rw [e1, e2] at ht hf ⊢
      rw [e3, n2, ← ht] at n1
      generalize Ieee.double.word (negF y) ((rungF y + 2 ^ (51 - k)) / 2 ^ (51 - k + 1) * 2 ^ (51 - k + 1)) = z at *
      have hw : ∀ K : Nat, K ≤ 2251799813685248 → IntKind.u64.wrap ((y : Int) + (K : Int)) = (y : Int) + (K : Int) := by
        intro K hK
        have : y % 9223372036854775808 < 4701758010974797824 := hr
        show ((y : Int) + (K : Int)) % 18446744073709551616 = _
        omega
      clear ht he hr h2 h3 n2 e1 e2 e3 c1 c2 hy
      rcases (show k = 0 ∨ k = 1 ∨ k = 2 ∨ k = 3 ∨ k = 4 ∨ k = 5 ∨ k = 6 ∨ k = 7 ∨ k = 8 ∨ k = 9 ∨ k = 10 ∨ k = 11 ∨ k = 12 ∨ k = 13 ∨ k = 14 ∨ k = 15 ∨ k = 16 ∨ k = 17 ∨ k = 18 ∨ k = 19 ∨ k = 20 from by omega) with rfl | rfl | rfl | rfl | rfl | rfl | rfl | rfl | rfl | rfl | rfl | rfl | rfl | rfl | rfl | rfl | rfl | rfl | rfl | rfl | rfl
      ·
        have m1 : bits .and .u64 ((y : Int) / 4503599627370496) 2047 = 1023 := h1
        have m2 : IntKind.u64.wrap ((y : Int) + 2251799813685248) = (y : Int) + 2251799813685248 := hw 2251799813685248 (by decide)
        have m3 : bits .andNot .u64 ((y : Int) + 2251799813685248) 4503599627370495 = (z : Int) := by simpa using n1
        clear h1 hw n1
        go_enter Tryz.func87, Tryz.ntmps87
        go_wp2
        go_ret
        exact ⟨rfl, Below.refl _ _⟩
      ·
        have m1 : bits .and .u64 ((y : Int) / 4503599627370496) 2047 = 1024 := h1
        have m2 : IntKind.u64.wrap ((y : Int) + 1125899906842624) = (y : Int) + 1125899906842624 := hw 1125899906842624 (by decide)
        have m3 : bits .andNot .u64 ((y : Int) + 1125899906842624) 2251799813685247 = (z : Int) := by simpa using n1
        clear h1 hw n1
        go_enter Tryz.func87, Tryz.ntmps87
        go_wp2
        go_ret
        exact ⟨rfl, Below.refl _ _⟩
      ·
        have m1 : bits .and .u64 ((y : Int) / 4503599627370496) 2047 = 1025 := h1
        have m2 : IntKind.u64.wrap ((y : Int) + 562949953421312) = (y : Int) + 562949953421312 := hw 562949953421312 (by decide)
        have m3 : bits .andNot .u64 ((y : Int) + 562949953421312) 1125899906842623 = (z : Int) := by simpa using n1
        clear h1 hw n1
        go_enter Tryz.func87, Tryz.ntmps87
        go_wp2
        go_ret
        exact ⟨rfl, Below.refl _ _⟩
      ·
        have m1 : bits .and .u64 ((y : Int) / 4503599627370496) 2047 = 1026 := h1
        have m2 : IntKind.u64.wrap ((y : Int) + 281474976710656) = (y : Int) + 281474976710656 := hw 281474976710656 (by decide)
        have m3 : bits .andNot .u64 ((y : Int) + 281474976710656) 562949953421311 = (z : Int) := by simpa using n1
        clear h1 hw n1
        go_enter Tryz.func87, Tryz.ntmps87
        go_wp2
        go_ret
        exact ⟨rfl, Below.refl _ _⟩
      ·
        have m1 : bits .and .u64 ((y : Int) / 4503599627370496) 2047 = 1027 := h1
        have m2 : IntKind.u64.wrap ((y : Int) + 140737488355328) = (y : Int) + 140737488355328 := hw 140737488355328 (by decide)
        have m3 : bits .andNot .u64 ((y : Int) + 140737488355328) 281474976710655 = (z : Int) := by simpa using n1
        clear h1 hw n1
        go_enter Tryz.func87, Tryz.ntmps87
        go_wp2
        go_ret
        exact ⟨rfl, Below.refl _ _⟩
      ·
        have m1 : bits .and .u64 ((y : Int) / 4503599627370496) 2047 = 1028 := h1
        have m2 : IntKind.u64.wrap ((y : Int) + 70368744177664) = (y : Int) + 70368744177664 := hw 70368744177664 (by decide)
        have m3 : bits .andNot .u64 ((y : Int) + 70368744177664) 140737488355327 = (z : Int) := by simpa using n1
        clear h1 hw n1
        go_enter Tryz.func87, Tryz.ntmps87
        go_wp2
        go_ret
        exact ⟨rfl, Below.refl _ _⟩
      ·
        have m1 : bits .and .u64 ((y : Int) / 4503599627370496) 2047 = 1029 := h1
        have m2 : IntKind.u64.wrap ((y : Int) + 35184372088832) = (y : Int) + 35184372088832 := hw 35184372088832 (by decide)
        have m3 : bits .andNot .u64 ((y : Int) + 35184372088832) 70368744177663 = (z : Int) := by simpa using n1
        clear h1 hw n1
        go_enter Tryz.func87, Tryz.ntmps87
        go_wp2
        go_ret
        exact ⟨rfl, Below.refl _ _⟩
      ·
        have m1 : bits .and .u64 ((y : Int) / 4503599627370496) 2047 = 1030 := h1
        have m2 : IntKind.u64.wrap ((y : Int) + 17592186044416) = (y : Int) + 17592186044416 := hw 17592186044416 (by decide)
        have m3 : bits .andNot .u64 ((y : Int) + 17592186044416) 35184372088831 = (z : Int) := by simpa using n1
        clear h1 hw n1
        go_enter Tryz.func87, Tryz.ntmps87
        go_wp2
        go_ret
        exact ⟨rfl, Below.refl _ _⟩
      ·
        have m1 : bits .and .u64 ((y : Int) / 4503599627370496) 2047 = 1031 := h1
        have m2 : IntKind.u64.wrap ((y : Int) + 8796093022208) = (y : Int) + 8796093022208 := hw 8796093022208 (by decide)
        have m3 : bits .andNot .u64 ((y : Int) + 8796093022208) 17592186044415 = (z : Int) := by simpa using n1
        clear h1 hw n1
        go_enter Tryz.func87, Tryz.ntmps87
        go_wp2
        go_ret
        exact ⟨rfl, Below.refl _ _⟩
      ·
        have m1 : bits .and .u64 ((y : Int) / 4503599627370496) 2047 = 1032 := h1
        have m2 : IntKind.u64.wrap ((y : Int) + 4398046511104) = (y : Int) + 4398046511104 := hw 4398046511104 (by decide)
        have m3 : bits .andNot .u64 ((y : Int) + 4398046511104) 8796093022207 = (z : Int) := by simpa using n1
        clear h1 hw n1
        go_enter Tryz.func87, Tryz.ntmps87
        go_wp2
        go_ret
        exact ⟨rfl, Below.refl _ _⟩
      ·
        have m1 : bits .and .u64 ((y : Int) / 4503599627370496) 2047 = 1033 := h1
        have m2 : IntKind.u64.wrap ((y : Int) + 2199023255552) = (y : Int) + 2199023255552 := hw 2199023255552 (by decide)
        have m3 : bits .andNot .u64 ((y : Int) + 2199023255552) 4398046511103 = (z : Int) := by simpa using n1
        clear h1 hw n1
        go_enter Tryz.func87, Tryz.ntmps87
        go_wp2
        go_ret
        exact ⟨rfl, Below.refl _ _⟩
      ·
        have m1 : bits .and .u64 ((y : Int) / 4503599627370496) 2047 = 1034 := h1
        have m2 : IntKind.u64.wrap ((y : Int) + 1099511627776) = (y : Int) + 1099511627776 := hw 1099511627776 (by decide)
        have m3 : bits .andNot .u64 ((y : Int) + 1099511627776) 2199023255551 = (z : Int) := by simpa using n1
        clear h1 hw n1
        go_enter Tryz.func87, Tryz.ntmps87
        go_wp2
        go_ret
        exact ⟨rfl, Below.refl _ _⟩
      ·
        have m1 : bits .and .u64 ((y : Int) / 4503599627370496) 2047 = 1035 := h1
        have m2 : IntKind.u64.wrap ((y : Int) + 549755813888) = (y : Int) + 549755813888 := hw 549755813888 (by decide)
        have m3 : bits .andNot .u64 ((y : Int) + 549755813888) 1099511627775 = (z : Int) := by simpa using n1
        clear h1 hw n1
        go_enter Tryz.func87, Tryz.ntmps87
        go_wp2
        go_ret
        exact ⟨rfl, Below.refl _ _⟩
      ·
        have m1 : bits .and .u64 ((y : Int) / 4503599627370496) 2047 = 1036 := h1
        have m2 : IntKind.u64.wrap ((y : Int) + 274877906944) = (y : Int) + 274877906944 := hw 274877906944 (by decide)
        have m3 : bits .andNot .u64 ((y : Int) + 274877906944) 549755813887 = (z : Int) := by simpa using n1
        clear h1 hw n1
        go_enter Tryz.func87, Tryz.ntmps87
        go_wp2
        go_ret
        exact ⟨rfl, Below.refl _ _⟩
      ·
        have m1 : bits .and .u64 ((y : Int) / 4503599627370496) 2047 = 1037 := h1
        have m2 : IntKind.u64.wrap ((y : Int) + 137438953472) = (y : Int) + 137438953472 := hw 137438953472 (by decide)
        have m3 : bits .andNot .u64 ((y : Int) + 137438953472) 274877906943 = (z : Int) := by simpa using n1
        clear h1 hw n1
        go_enter Tryz.func87, Tryz.ntmps87
        go_wp2
        go_ret
        exact ⟨rfl, Below.refl _ _⟩
      ·
        have m1 : bits .and .u64 ((y : Int) / 4503599627370496) 2047 = 1038 := h1
        have m2 : IntKind.u64.wrap ((y : Int) + 68719476736) = (y : Int) + 68719476736 := hw 68719476736 (by decide)
        have m3 : bits .andNot .u64 ((y : Int) + 68719476736) 137438953471 = (z : Int) := by simpa using n1
        clear h1 hw n1
        go_enter Tryz.func87, Tryz.ntmps87
        go_wp2
        go_ret
        exact ⟨rfl, Below.refl _ _⟩
      ·
        have m1 : bits .and .u64 ((y : Int) / 4503599627370496) 2047 = 1039 := h1
        have m2 : IntKind.u64.wrap ((y : Int) + 34359738368) = (y : Int) + 34359738368 := hw 34359738368 (by decide)
        have m3 : bits .andNot .u64 ((y : Int) + 34359738368) 68719476735 = (z : Int) := by simpa using n1
        clear h1 hw n1
        go_enter Tryz.func87, Tryz.ntmps87
        go_wp2
        go_ret
        exact ⟨rfl, Below.refl _ _⟩
      ·
        have m1 : bits .and .u64 ((y : Int) / 4503599627370496) 2047 = 1040 := h1
        have m2 : IntKind.u64.wrap ((y : Int) + 17179869184) = (y : Int) + 17179869184 := hw 17179869184 (by decide)
        have m3 : bits .andNot .u64 ((y : Int) + 17179869184) 34359738367 = (z : Int) := by simpa using n1
        clear h1 hw n1
        go_enter Tryz.func87, Tryz.ntmps87
        go_wp2
        go_ret
        exact ⟨rfl, Below.refl _ _⟩
      ·
        have m1 : bits .and .u64 ((y : Int) / 4503599627370496) 2047 = 1041 := h1
        have m2 : IntKind.u64.wrap ((y : Int) + 8589934592) = (y : Int) + 8589934592 := hw 8589934592 (by decide)
        have m3 : bits .andNot .u64 ((y : Int) + 8589934592) 17179869183 = (z : Int) := by simpa using n1
        clear h1 hw n1
        go_enter Tryz.func87, Tryz.ntmps87
        go_wp2
        go_ret
        exact ⟨rfl, Below.refl _ _⟩
      ·
        have m1 : bits .and .u64 ((y : Int) / 4503599627370496) 2047 = 1042 := h1
        have m2 : IntKind.u64.wrap ((y : Int) + 4294967296) = (y : Int) + 4294967296 := hw 4294967296 (by decide)
        have m3 : bits .andNot .u64 ((y : Int) + 4294967296) 8589934591 = (z : Int) := by simpa using n1
        clear h1 hw n1
        go_enter Tryz.func87, Tryz.ntmps87
        go_wp2
        go_ret
        exact ⟨rfl, Below.refl _ _⟩
      ·
        have m1 : bits .and .u64 ((y : Int) / 4503599627370496) 2047 = 1043 := h1
        have m2 : IntKind.u64.wrap ((y : Int) + 2147483648) = (y : Int) + 2147483648 := hw 2147483648 (by decide)
        have m3 : bits .andNot .u64 ((y : Int) + 2147483648) 4294967295 = (z : Int) := by simpa using n1
        clear h1 hw n1
        go_enter Tryz.func87, Tryz.ntmps87
        go_wp2
        go_ret
        exact ⟨rfl, Below.refl _ _⟩
end Go.Proofs.YtebkeocpojlepaaGreatDoor

/- fixed.Class, fixed.Fix, dogwatchref13.Fix at the limits 90 and 180. -/
namespace Go.Proofs.YtebkeocpojlepaaGreatDoor
open Go.RowKit Ieee
set_option linter.unusedVariables false
set_option linter.unusedSimpArgs false

/-- a limit and the word of its float -/
def LimF (m : Int) (L : Nat) : Prop := (m = 90 ∧ L = 4636033603912859648) ∨ (m = 180 ∧ L = 4640537203540230144)
def fixN (x : Nat) : Int := sg (negF x) (rndF (valF (rungF x) * 8192))
def fixV (x L : Nat) : Int := if L < rungF x then 0 else fixN x
def fixE (x L : Nat) : Int := if 9218868437227405312 < rungF x then 12 else if L < rungF x then 13 else 0

set_option maxRecDepth 100000 in
theorem Class_nan (x : Nat) (h : 9218868437227405312 < rungF x) (w : World) : Calls Tryz.prog 85 #[.float .f64 x] w fun e w' => e = .returned (.int .i64 5) ∧ Below w.heap.size w w' := by
  have hN := IsNaN_any x
  rw [show decide (9218868437227405312 < rungF x) = true by simpa using h] at hN
  clear h
  go_enter Tryz.func85, Tryz.ntmps85
  go_wp2_with (with_reducible refine (hN _).mono ?_; rintro e w1 ⟨rfl, b1⟩)
  go_ret
  exact ⟨rfl, b1⟩

set_option maxRecDepth 100000 in
theorem Class_num (x : Nat) (h : ¬ 9218868437227405312 < rungF x) (w : World) : Calls Tryz.prog 85 #[.float .f64 x] w fun e w' => ∃ n : Int, e = .returned (.int .i64 n) ∧ n ≠ 5 ∧ Below w.heap.size w w' := by
  have hN := IsNaN_any x
  rw [show decide (9218868437227405312 < rungF x) = false by simpa using h] at hN
  clear h
  have hI := IsInf_any x 1 (.inl rfl)
  have hJ := IsInf_any x (-1) (.inr rfl)
  have hS := Signbit_any x
  generalize infB x 1 = i at *
  generalize infB x (-1) = j at *
  go_enter Tryz.func85, Tryz.ntmps85
  go_wp2_with (with_reducible refine (hN _).mono ?_)
  rintro e w1 ⟨rfl, b1⟩
  go_wp2_with (with_reducible refine (hI _).mono ?_)
  rintro e w2 ⟨rfl, b2⟩
  replace b2 := bthen b1 b2
  cases i
  case true =>
    go_wp2
    go_ret
    exact ⟨_, rfl, by decide, b2⟩
  go_wp2_with (with_reducible refine (hJ _).mono ?_)
  rintro e w3 ⟨rfl, b3⟩
  replace b3 := bthen b2 b3
  cases j
  case true =>
    go_wp2
    go_ret
    exact ⟨_, rfl, by decide, b3⟩
  generalize hz : (FloatKind.f64.format.order x 0 == some .eq) = z
  cases z
  case true =>
    go_wp2
    go_ret
    exact ⟨_, rfl, by decide, b3⟩
  go_wp2_with (with_reducible refine (hS _).mono ?_)
  rintro e w4 ⟨b, rfl, b4⟩
  replace b4 := bthen b3 b4
  cases b
  case true =>
    go_wp2
    go_ret
    exact ⟨_, rfl, by decide, b4⟩
  go_wp2
  go_ret
  exact ⟨_, rfl, by decide, b4⟩

theorem rung_rung (x : Nat) : rungF (rungF x) = rungF x := by unfold rungF; omega
theorem rung_pos (x : Nat) : negF (rungF x) = false := by unfold negF rungF; simp
theorem lim_lt {m : Int} {L : Nat} (h : LimF m L) : L < 4643211215818981376 ∧ rungF L = L ∧ negF L = false ∧ floatOfInt .f64 m = L ∧ (m = 90 ∨ m = 180) := by
  rcases h with ⟨rfl, rfl⟩ | ⟨rfl, rfl⟩
  · exact ⟨by decide, by decide, by decide, by decide, .inl rfl⟩
  · exact ⟨by decide, by decide, by decide, by decide, .inr rfl⟩

theorem abs_gt {m : Int} {x L : Nat} (h : LimF m L) (hx : ¬ 9218868437227405312 < rungF x) : (FloatKind.f64.format.order (rungF x) L == some .gt) = decide (L < rungF x) := by
  show (Ieee.double.order (rungF x) L == some .gt) = _
  obtain ⟨h1, h2, h3, _, _⟩ := lim_lt h
  by_cases c : rungF x = 9218868437227405312
  · have e1 := read_infinity (rungF x) (by rw [rung_rung]; exact c)
    have e2 := read_num L (by rw [h2]; omega)
    unfold Format.order
    rw [e1, e2, rung_pos]
    simp [Datum.order, c]; omega
  · rw [order_gt (rungF x) L (by rw [rung_rung]; omega) (by rw [h2]; omega)]
    unfold sgnF
    rw [rung_pos, h3, rung_rung, h2]
    congr 1
    simp only [Bool.false_eq_true, if_false]
    rw [Int.ofNat_lt, valF_lt_iff]

theorem lim_val {m : Int} {L : Nat} (h : LimF m L) : valF L = m.toNat * fU := by
  have e := (ofInt_num m (by rcases (lim_lt h).2.2.2.2 with rfl | rfl <;> decide)).2.2.2
  rw [(lim_lt h).2.2.2.1, (lim_lt h).2.1] at e
  rw [e]; congr 1
  rcases (lim_lt h).2.2.2.2 with rfl | rfl <;> decide

theorem rnd_le {m : Int} {x L : Nat} (h : LimF m L) (hx : ¬ L < rungF x) : rndF (valF (rungF x) * 8192) ≤ m.toNat * 8192 := by
  have h1 := valF_le_iff.2 (Nat.le_of_not_lt hx)
  rw [lim_val h] at h1
  have hp := fU_pos
  unfold rndF
  generalize valF (rungF x) = v at *
  generalize m.toNat = k at *
  have : v * 8192 ≤ k * 8192 * fU := by
    calc v * 8192 ≤ k * fU * 8192 := Nat.mul_le_mul_right _ h1
      _ = k * 8192 * fU := by rw [Nat.mul_right_comm]
  have e : 2 * (k * 8192 * fU) = k * 8192 * (2 * fU) := by rw [Nat.mul_left_comm]
  rw [← Nat.lt_succ_iff, Nat.div_lt_iff_lt_mul (Nat.mul_pos (by decide) hp), Nat.succ_mul (k * 8192), ← e]
  clear e h1 h
  revert this
  generalize k * 8192 * fU = W
  generalize v * 8192 = v8
  generalize fU = U at *
  intro this
  omega

/-- what the product and its rounding are -/
structure FixO (x : Nat) (y : Nat) : Prop where
  mul : Ieee.double.mul x 4665729213955833856 = some y
  lt : y < 18446744073709551616
  neg : negF y = negF x
  val : valF (rungF y) = valF (rungF x) * 8192
  rung : rungF y < 4701758010974797824
  int : floatToIntVal .f64 y .i64 = some (sg (negF x) (valF (rungF x) * 8192 / fU))
  round : floatToIntVal .f64 (Ieee.double.word (negF y) (roundR (rungF y))) .i64 = some (fixN x)

theorem big_val : 2097152 * fU ≤ valF 4701758010974797824 := by
  have h := two_up 4701758010974797824 1043 (by decide) (by decide)
  have h2 : 52 + 1043 = 21 + fE := by rw [fE_eq]
  generalize 1043 = e at h h2
  have h3 : 2 ^ fE = fU := rfl
  rw [h, h2, Nat.pow_add, h3]
  exact Nat.mul_le_mul_right _ (by decide)

theorem fixO {m : Int} {x L : Nat} (h : LimF m L) (hx : ¬ L < rungF x) : ∃ y, FixO x y := by
  have hl := (lim_lt h).1
  obtain ⟨y, h1, h2, h3, h4, h5⟩ := mul_8192 x (by omega)
  have hm : m.toNat ≤ 180 := by rcases (lim_lt h).2.2.2.2 with rfl | rfl <;> decide
  have hr := rnd_le h hx
  have hv1 := valF_le_iff.2 (Nat.le_of_not_lt hx)
  rw [lim_val h] at hv1
  have hv2 : valF (rungF x) * 8192 ≤ m.toNat * 8192 * fU := by
    calc valF (rungF x) * 8192 ≤ m.toNat * fU * 8192 := Nat.mul_le_mul_right _ hv1
      _ = m.toNat * 8192 * fU := by rw [Nat.mul_right_comm]
  have hq : valF (rungF x) * 8192 / fU ≤ m.toNat * 8192 := by
    rw [← Nat.lt_succ_iff, Nat.div_lt_iff_lt_mul fU_pos, Nat.succ_mul]
    have := fU_pos
    omega
  have hr5 : rungF y < 4701758010974797824 := by
    rw [← valF_lt_iff, h5]
    refine Nat.lt_of_le_of_lt hv2 (Nat.lt_of_lt_of_le ?_ big_val)
    exact Nat.mul_lt_mul_of_pos_right (by omega) fU_pos
  have sgb : ∀ (s : Bool) (n : Nat), n ≤ 2097152 → IntKind.i64.min ≤ sg s n ∧ sg s n ≤ IntKind.i64.max := by
    intro s n hn
    show (-9223372036854775808 : Int) ≤ sg s n ∧ sg s n ≤ 9223372036854775807
    unfold sg; cases s <;> simp <;> omega
  refine ⟨y, h1, h2, h3, h5, hr5, ?_, ?_⟩
  · unfold floatToIntVal
    have e : (FloatKind.f64.decode y).toInt .zero = some (sg (negF x) (valF (rungF x) * 8192 / fU)) := by
      have := toInt_num y (by omega) (by have := upF_le (rungF y) 1042 (by omega); omega)
      rw [h3, h5] at this; exact this
    rw [e]
    simp only [sgb _ _ (show valF (rungF x) * 8192 / fU ≤ 2097152 by omega), and_self, if_true]
  · obtain ⟨r1, r2⟩ := round_val (rungF y) hr5
    unfold floatToIntVal
    have e : (FloatKind.f64.decode (Ieee.double.word (negF y) (roundR (rungF y)))).toInt .zero = some (fixN x) := by
      have := toInt_num (Ieee.double.word (negF y) (roundR (rungF y))) (by rw [word_rung _ _ (by omega)]; omega) (by rw [word_rung _ _ (by omega)]; have := upF_le (roundR (rungF y)) 1043 (by omega); omega)
      rw [word_neg _ _ (by omega), word_rung _ _ (by omega), r2, h5, h3, Nat.mul_div_cancel _ fU_pos] at this
      rw [h3]; exact this
    rw [e]
    simp only [fixN, sgb _ _ (show rndF (valF (rungF x) * 8192) ≤ 2097152 by omega), and_self, if_true]

end Go.Proofs.YtebkeocpojlepaaGreatDoor

/- fixed.Fix and dogwatchref13.Fix answer the same: fixV, fixE. -/
namespace Go.Proofs.YtebkeocpojlepaaGreatDoor
open Go.RowKit Ieee
set_option linter.unusedVariables false
set_option linter.unusedSimpArgs false

theorem run_int_float (n : Int) (W : World) : (convert 3 23 (.int .i64 n)).run Tryz.prog W = .ok (.float .f64 (floatOfInt .f64 n)) W := by
  simp [convert, go_sem, Conv.intToFloat, floatOfInt]

set_option maxRecDepth 100000 in
set_option maxHeartbeats 1000000 in
theorem Fix_any (x : Nat) (hx : x < 18446744073709551616) (m : Int) (L : Nat) (hL : LimF m L) (w : World) :
    Calls Tryz.prog 62 #[.float .f64 x, .int .i64 m] w fun e w' => e = .returned (.tuple #[.int .i64 (fixV x L), .int .i64 (fixE x L)]) ∧ Below w.heap.size w w' := by
  obtain ⟨l1, l2, l3, l4, l5⟩ := lim_lt hL
  by_cases hn : 9218868437227405312 < rungF x
  · have hC := Class_nan x hn
    have hV : fixV x L = 0 := by unfold fixV; rw [if_pos (by omega)]
    have hE : fixE x L = 12 := by unfold fixE; rw [if_pos hn]
    rw [hV, hE]
    clear hV hE l1 l2 l3 l4 l5 hL hn
    go_enter Tryz.func62, Tryz.ntmps62
    go_wp2_with (with_reducible refine (hC _).mono ?_; rintro e w1 ⟨rfl, b1⟩)
    go_ret2
    exact ⟨rfl, b1⟩
  · have hC := Class_num x hn
    have hA := Abs_any x hx
    have hG := abs_gt hL hn
    have hF := run_int_float m
    rw [l4] at hF
    have m0 : ¬ m < 0 := by rcases l5 with rfl | rfl <;> decide
    have m1 : ¬ 180 < m := by rcases l5 with rfl | rfl <;> decide
    by_cases hR : L < rungF x
    · have hV : fixV x L = 0 := by unfold fixV; rw [if_pos hR]
      have hE : fixE x L = 13 := by unfold fixE; rw [if_neg hn, if_pos hR]
      rw [hV, hE]
      rw [show decide (L < rungF x) = true by simpa using hR] at hG
      clear hV hE l1 l2 l3 l4 l5 hL hn hR
      generalize rungF x = r at *
      go_enter Tryz.func62, Tryz.ntmps62
      go_wp2_with ((with_reducible refine (hC _).mono ?_); rintro e w1 ⟨n, rfl, hn5, b1⟩)
      go_wp2_with (with_reducible refine (hA _).mono ?_)
      rintro e w2 ⟨rfl, b2⟩
      replace b2 := bthen b1 b2
      go_wp2
      go_ret2
      exact ⟨rfl, b2⟩
    · obtain ⟨y, hy⟩ := fixO hL hR
      have hV : fixV x L = fixN x := by unfold fixV; rw [if_neg hR]
      have hE : fixE x L = 0 := by unfold fixE; rw [if_neg hn, if_neg hR]
      rw [hV, hE]
      rw [show decide (L < rungF x) = false by simpa using hR] at hG
      have hM := fun W => run_float_arith (P := Tryz.prog) W .mul 23 .f64 x 4665729213955833856 y hy.mul
      have hD := Round_any y hy.lt hy.rung
      have hI := fun W => run_convert_float_int (P := Tryz.prog) W 23 3 .f64 .i64 _ _ (by kernel_rfl) (by kernel_rfl) hy.round
      generalize Ieee.double.word (negF y) (roundR (rungF y)) = z at *
      generalize fixN x = N at *
      clear hV hE l1 l2 l3 l4 l5 hL hn hR hy
      generalize rungF x = r at *
      go_enter Tryz.func62, Tryz.ntmps62
      go_wp2_with ((with_reducible refine (hC _).mono ?_); rintro e w1 ⟨n, rfl, hn5, b1⟩)
      go_wp2_with (with_reducible refine (hA _).mono ?_)
      rintro e w2 ⟨rfl, b2⟩
      replace b2 := bthen b1 b2
      go_wp2_with (with_reducible refine (hD _).mono ?_)
      rintro e w3 ⟨rfl, b3⟩
      replace b3 := bthen b2 b3
      go_wp2
      go_ret2
      exact ⟨rfl, b3⟩
end Go.Proofs.YtebkeocpojlepaaGreatDoor

/- dogwatchref13.Fix answers fixV, fixE. -/
namespace Go.Proofs.YtebkeocpojlepaaGreatDoor
open Go.RowKit Ieee
set_option linter.unusedVariables false
set_option linter.unusedSimpArgs false

theorem neg_lim {m : Int} {L : Nat} (h : LimF m L) : rungF (Op.negFloat .f64 L) = L ∧ negF (Op.negFloat .f64 L) = true := by
  rcases h with ⟨rfl, rfl⟩ | ⟨rfl, rfl⟩ <;> exact ⟨by decide, by decide⟩

theorem out_gt {m : Int} {x L : Nat} (h : LimF m L) (hx : ¬ 9218868437227405312 < rungF x) : (FloatKind.f64.format.order x L == some .gt) = (!negF x && decide (L < rungF x)) := by
  show (Ieee.double.order x L == some .gt) = _
  obtain ⟨h1, h2, h3, _, _⟩ := lim_lt h
  by_cases c : rungF x = 9218868437227405312
  · have e1 := read_infinity x c
    have e2 := read_num L (by rw [h2]; omega)
    unfold Format.order
    rw [e1, e2, c]
    have : L < 9218868437227405312 := by omega
    cases negF x <;> simp [Datum.order, this]
  · rw [order_gt x L (by omega) (by rw [h2]; omega)]
    unfold sgnF
    rw [h3, h2]
    have hp : 0 < valF L := by rw [lim_val h]; exact Nat.mul_pos (by rcases h with ⟨rfl, _⟩ | ⟨rfl, _⟩ <;> decide) fU_pos
    cases negF x
    · simp [valF_lt_iff]
    · simp
theorem out_lt {m : Int} {x L : Nat} (h : LimF m L) (hx : ¬ 9218868437227405312 < rungF x) : (FloatKind.f64.format.order x (Op.negFloat .f64 L) == some .lt) = (negF x && decide (L < rungF x)) := by
  show (Ieee.double.order x (Op.negFloat .f64 L) == some .lt) = _
  obtain ⟨n1, n2⟩ := neg_lim h
  have h1 := (lim_lt h).1
  by_cases c : rungF x = 9218868437227405312
  · have e1 := read_infinity x c
    have e2 := read_num (Op.negFloat .f64 L) (by rw [n1]; omega)
    unfold Format.order
    rw [e1, e2, c]
    have : L < 9218868437227405312 := by omega
    cases negF x <;> simp [Datum.order, this]
  · rw [order_lt x _ (by omega) (by rw [n1]; omega)]
    unfold sgnF
    rw [n1, n2]
    have hp : 0 < valF L := by rw [lim_val h]; exact Nat.mul_pos (by rcases h with ⟨rfl, _⟩ | ⟨rfl, _⟩ <;> decide) fU_pos
    cases negF x
    · simp
    · simp [valF_lt_iff]

theorem ge_half (z : Nat) (hz : rungF z < 9218868437227405312) : (FloatKind.f64.format.order z 4602678819172646912 == some .gt || FloatKind.f64.format.order z 4602678819172646912 == some .eq) = decide ((fU : Int) ≤ 2 * sgnF z) := by
  have e1 := order_gt z 4602678819172646912 hz (by decide)
  have e2 := order_eq z 4602678819172646912 hz (by decide)
  show (Ieee.double.order z 4602678819172646912 == some .gt || Ieee.double.order z 4602678819172646912 == some .eq) = _
  rw [e1, e2, ← half_sgn]
  generalize sgnF 4602678819172646912 = h
  rw [← Bool.decide_or]
  congr 1
  apply propext; omega
theorem le_half (z : Nat) (hz : rungF z < 9218868437227405312) : (FloatKind.f64.format.order z 13826050856027422720 == some .lt || FloatKind.f64.format.order z 13826050856027422720 == some .eq) = decide ((fU : Int) ≤ -(2 * sgnF z)) := by
  have e1 := order_lt z 13826050856027422720 hz (by decide)
  have e2 := order_eq z 13826050856027422720 hz (by decide)
  show (Ieee.double.order z 13826050856027422720 == some .lt || Ieee.double.order z 13826050856027422720 == some .eq) = _
  rw [e1, e2]
  have := half_neg
  generalize sgnF 13826050856027422720 = h at *
  rw [← Bool.decide_or]
  congr 1
  apply propext; omega

/-- the three ways of the reference -/
theorem three_ways {m : Int} {x L y : Nat} (h : LimF m L) (hx : ¬ L < rungF x) (hy : FixO x y) (n : Int) (hn : n = sg (negF x) (valF (rungF x) * 8192 / fU)) :
    n.natAbs ≤ 2097152 ∧ ∃ z, Ieee.double.sub y (floatOfInt .f64 n) = some z ∧
      (((FloatKind.f64.format.order z 4602678819172646912 == some .gt || FloatKind.f64.format.order z 4602678819172646912 == some .eq) = true ∧ fixN x = n + 1) ∨
       ((FloatKind.f64.format.order z 4602678819172646912 == some .gt || FloatKind.f64.format.order z 4602678819172646912 == some .eq) = false ∧ (FloatKind.f64.format.order z 13826050856027422720 == some .lt || FloatKind.f64.format.order z 13826050856027422720 == some .eq) = true ∧ fixN x = n - 1) ∨
       ((FloatKind.f64.format.order z 4602678819172646912 == some .gt || FloatKind.f64.format.order z 4602678819172646912 == some .eq) = false ∧ (FloatKind.f64.format.order z 13826050856027422720 == some .lt || FloatKind.f64.format.order z 13826050856027422720 == some .eq) = false ∧ fixN x = n)) := by
  have hm : m.toNat ≤ 180 := by rcases (lim_lt h).2.2.2.2 with rfl | rfl <;> decide
  have hr := rnd_le h hx
  have hre := rndF_eq (valF (rungF x) * 8192)
  have hq : valF (rungF x) * 8192 / fU ≤ 2097152 := by
    rw [hre] at hr
    generalize valF (rungF x) * 8192 / fU = q at *
    split at hr <;> omega
  have hna : n.natAbs ≤ 2097152 := by
    rw [hn]; unfold sg
    generalize valF (rungF x) * 8192 / fU = q at *
    split <;> omega
  refine ⟨hna, ?_⟩
  obtain ⟨z, z1, z2, z3, z4⟩ := sub_part y n hy.rung (by rw [hy.neg, hy.val]; exact hn) (by omega)
  refine ⟨z, z1, ?_⟩
  rw [ge_half z z3, le_half z z3, z4, hy.neg, hy.val]
  unfold fixN
  rw [hre, hn]
  have hp := fU_pos
  generalize valF (rungF x) * 8192 % fU = r at *
  generalize valF (rungF x) * 8192 / fU = q at *
  unfold sg
  cases negF x
  · by_cases c : fU ≤ 2 * r
    · left; simp [c]; omega
    · right; right; simp [c]; omega
  · by_cases c : fU ≤ 2 * r
    · right; left; simp [c]; omega
    · right; right; simp [c]; omega
set_option maxRecDepth 100000 in
set_option maxHeartbeats 1000000 in
theorem rFix_any (x : Nat) (hx : x < 18446744073709551616) (m : Int) (L : Nat) (hL : LimF m L) (w : World) :
    Calls Tryz.prog 35 #[.float .f64 x, .int .i64 m] w fun e w' => e = .returned (.tuple #[.int .i64 (fixV x L), .int .i64 (fixE x L)]) ∧ Below w.heap.size w w' := by
  obtain ⟨l1, l2, l3, l4, l5⟩ := lim_lt hL
  have hs := order_self x
  by_cases hn : 9218868437227405312 < rungF x
  · have hV : fixV x L = 0 := by unfold fixV; rw [if_pos (by omega)]
    have hE : fixE x L = 12 := by unfold fixE; rw [if_pos hn]
    rw [hV, hE]
    rw [show decide (9218868437227405312 < rungF x) = true by simpa using hn] at hs
    clear hV hE l1 l2 l3 l4 l5 hL hn
    go_enter Tryz.func35, Tryz.ntmps35
    go_wp2
    go_ret2
    exact ⟨rfl, Below.refl _ _⟩
  · have hF := run_int_float m
    rw [l4] at hF
    have hG := out_gt hL hn
    have hH := out_lt hL hn
    have hN := run_neg L
    have m0 : ¬ m < 0 := by rcases l5 with rfl | rfl <;> decide
    have m1 : ¬ 180 < m := by rcases l5 with rfl | rfl <;> decide
    rw [show decide (9218868437227405312 < rungF x) = false by simpa using hn] at hs
    by_cases hR : L < rungF x
    · have hV : fixV x L = 0 := by unfold fixV; rw [if_pos hR]
      have hE : fixE x L = 13 := by unfold fixE; rw [if_neg hn, if_pos hR]
      rw [hV, hE]
      rw [show decide (L < rungF x) = true by simpa using hR, Bool.and_true] at hG hH
      clear hV hE l1 l2 l3 l4 l5 hL hn hR
      generalize Op.negFloat .f64 L = nL at *
      cases hneg : negF x
      case true =>
        rw [hneg] at hG hH
        go_enter Tryz.func35, Tryz.ntmps35
        go_wp2
        go_ret2
        exact ⟨rfl, Below.refl _ _⟩
      case false =>
        rw [hneg] at hG hH
        go_enter Tryz.func35, Tryz.ntmps35
        go_wp2
        go_ret2
        exact ⟨rfl, Below.refl _ _⟩
    · obtain ⟨y, hy⟩ := fixO hL hR
      have hV : fixV x L = fixN x := by unfold fixV; rw [if_neg hR]
      have hE : fixE x L = 0 := by unfold fixE; rw [if_neg hn, if_neg hR]
      rw [hV, hE]
      rw [show decide (L < rungF x) = false by simpa using hR, Bool.and_false] at hG hH
      obtain ⟨hb, z, hz, h3⟩ := three_ways hL hR hy _ rfl
      have hM := fun W => run_float_arith (P := Tryz.prog) W .mul 23 .f64 x 4665729213955833856 y hy.mul
      have hI := fun W => run_convert_float_int (P := Tryz.prog) W 23 3 .f64 .i64 _ _ (by kernel_rfl) (by kernel_rfl) hy.int
      have hJ := run_int_float (sg (negF x) (valF (rungF x) * 8192 / fU))
      have hS := fun W => run_float_arith (P := Tryz.prog) W .sub 23 .f64 y _ z hz
      generalize sg (negF x) (valF (rungF x) * 8192 / fU) = n at *
      generalize floatOfInt .f64 n = c at *
      generalize fixN x = N at *
      have w1 : IntKind.i64.wrap (n + 1) = n + 1 := IntWalk.i64_in _ (by omega)
      have w2 : IntKind.i64.wrap (n - 1) = n - 1 := IntWalk.i64_in _ (by omega)
      clear hV hE l1 l2 l3 l4 l5 hL hn hR hy hz hb hx
      generalize Op.negFloat .f64 L = nL at *
      rcases h3 with ⟨g1, rfl⟩ | ⟨g1, g2, rfl⟩ | ⟨g1, g2, rfl⟩
      ·
        go_enter Tryz.func35, Tryz.ntmps35
        go_wp2
        go_ret2
        exact ⟨rfl, Below.refl _ _⟩
      ·
        go_enter Tryz.func35, Tryz.ntmps35
        go_wp2
        go_ret2
        exact ⟨rfl, Below.refl _ _⟩
      ·
        go_enter Tryz.func35, Tryz.ntmps35
        go_wp2
        go_ret2
        exact ⟨rfl, Below.refl _ _⟩
end Go.Proofs.YtebkeocpojlepaaGreatDoor

/- Walks of package layout and of the document's answer for layer 5: Size, Slots, At. -/
namespace Go.Proofs.YtebkeocpojlepaaGreatDoor
open Go.RowKit
set_option linter.unusedVariables false

def sizeL (n : Int) : Int := if 1 ≤ n ∧ n ≤ 12 then 24 * n + 24 else 0
def slotsL (z : Int) : Int := if z % 24 = 0 ∧ 48 ≤ z ∧ z ≤ 312 then z / 24 - 1 else 0
def atL (n : Int) : Int := if 0 ≤ n ∧ n ≤ 12 then 24 * n else -1
def markL (n : Int) : Int := if 0 ≤ n ∧ n ≤ 12 then 24 * n + 22 else -1
def evenL (n : Int) : Bool := decide (1 ≤ n ∧ n ≤ 12)

theorem between_yes (a b c : Int) (w : World) (h1 : b ≤ a) (h2 : a ≤ c) :
    Calls Tryz.prog 142 #[.int .i64 a, .int .i64 b, .int .i64 c] w fun e w' => e = .returned (.bool true) ∧ w = w' := by
  go_enter Tryz.func142, Tryz.ntmps142
  go_wp2
  go_ret
  exact ⟨rfl, rfl⟩

theorem between_no (a b c : Int) (w : World) (h : a < b ∨ c < a) :
    Calls Tryz.prog 142 #[.int .i64 a, .int .i64 b, .int .i64 c] w fun e w' => e = .returned (.bool false) ∧ w = w' := by
  by_cases h1 : b ≤ a
  · have h2 : c < a := by omega
    clear h
    go_enter Tryz.func142, Tryz.ntmps142
    go_wp2
    go_ret
    exact ⟨ret_bool (by simp; omega), rfl⟩
  · clear h
    go_enter Tryz.func142, Tryz.ntmps142
    go_wp2
    go_ret
    exact ⟨rfl, rfl⟩

theorem size_any (n : Int) (w : World) :
    Calls Tryz.prog 127 #[.int .i64 n] w fun e w' => e = .returned (.int .i64 (sizeL n)) ∧ w = w' := by
  by_cases h : 1 ≤ n ∧ n ≤ 12
  · obtain ⟨h1, h2⟩ := h
    go_enter Tryz.func127, Tryz.ntmps127
    go_wp2_with (refine (between_yes _ _ _ _ (by omega) (by omega)).mono ?_; rintro e w' ⟨rfl, rfl⟩)
    go_ret
    exact ⟨ret_int (by unfold sizeL; rw [if_pos ⟨h1, h2⟩]; omega), rfl⟩
  · have h' : n < 1 ∨ 12 < n := by omega
    go_enter Tryz.func127, Tryz.ntmps127
    go_wp2_with (refine (between_no _ _ _ _ (by omega)).mono ?_; rintro e w' ⟨rfl, rfl⟩)
    go_ret
    exact ⟨ret_int (by unfold sizeL; rw [if_neg h]), rfl⟩

theorem at_any (n : Int) (w : World) :
    Calls Tryz.prog 131 #[.int .i64 n] w fun e w' => e = .returned (.int .i64 (atL n)) ∧ w = w' := by
  by_cases h : 0 ≤ n ∧ n ≤ 12
  · obtain ⟨h1, h2⟩ := h
    go_enter Tryz.func131, Tryz.ntmps131
    go_wp2_with (refine (between_yes _ _ _ _ (by omega) (by omega)).mono ?_; rintro e w' ⟨rfl, rfl⟩)
    go_ret
    exact ⟨ret_int (by unfold atL; rw [if_pos ⟨h1, h2⟩]; omega), rfl⟩
  · have h' : n < 0 ∨ 12 < n := by omega
    go_enter Tryz.func131, Tryz.ntmps131
    go_wp2_with (refine (between_no _ _ _ _ (by omega)).mono ?_; rintro e w' ⟨rfl, rfl⟩)
    go_ret
    exact ⟨ret_int (by unfold atL; rw [if_neg h]), rfl⟩

theorem td24 (n : Int) : n = 24 * n.tdiv 24 + n.tmod 24 ∧ -24 < n.tmod 24 ∧ n.tmod 24 < 24 ∧ (0 ≤ n → 0 ≤ n.tmod 24) ∧ (n ≤ 0 → n.tmod 24 ≤ 0) := by
  refine ⟨(Int.mul_tdiv_add_tmod n 24).symm, ?_, ?_, fun h => Int.tmod_nonneg 24 h, fun h => ?_⟩
  · have := Int.lt_tmod_of_pos n (show (0 : Int) < 24 by decide); simpa using this
  · exact Int.tmod_lt_of_pos n (by decide)
  · have h2 := Int.tmod_nonneg (a := -n) 24 (by omega)
    rw [Int.neg_tmod] at h2
    omega

theorem slots_any (n : Int) (w : World) (hlo : -9223372036854775808 ≤ n) (hhi : n ≤ 9223372036854775807) :
    Calls Tryz.prog 112 #[.int .i64 n] w fun e w' => e = .returned (.int .i64 (slotsL n)) ∧ w = w' := by
  obtain ⟨hq, hr1, hr2, hr3, hr4⟩ := td24 n
  have hb1 : -9223372036854775000 ≤ n.tdiv 24 := by omega
  have hb2 : n.tdiv 24 ≤ 9223372036854775000 := by omega
  by_cases h : n.tmod 24 = 0
  · by_cases hz : 2 ≤ n.tdiv 24 ∧ n.tdiv 24 ≤ 13
    · have hs : sizeL (n.tdiv 24 - 1) = 24 * (n.tdiv 24 - 1) + 24 := by unfold sizeL; rw [if_pos (by omega)]
      have hne : (24 * (n.tdiv 24 - 1) + 24 == 0) = false := by simp; omega
      have hr : slotsL n = n.tdiv 24 - 1 := by unfold slotsL; rw [if_pos (by omega)]; omega
      have HS := Lib.hid hs; clear hs
      have HR := Lib.hid hr; clear hr hq
      go_enter Tryz.func112, Tryz.ntmps112
      go_wp2_with (refine (size_any _ _).mono ?_; rw [HS.out]; rintro e w' ⟨rfl, rfl⟩)
      go_ret
      exact ⟨ret_int HR.out.symm, rfl⟩
    · have hs : sizeL (n.tdiv 24 - 1) = 0 := by unfold sizeL; rw [if_neg (by omega)]
      have hr : slotsL n = 0 := by unfold slotsL; rw [if_neg (by omega)]
      have HS := Lib.hid hs; clear hs
      have HR := Lib.hid hr; clear hr hq
      go_enter Tryz.func112, Tryz.ntmps112
      go_wp2_with (refine (size_any _ _).mono ?_; rw [HS.out]; rintro e w' ⟨rfl, rfl⟩)
      go_ret
      exact ⟨ret_int HR.out.symm, rfl⟩
  · have hr : slotsL n = 0 := by unfold slotsL; rw [if_neg (by omega)]
    have HR := Lib.hid hr; clear hr hq
    go_enter Tryz.func112, Tryz.ntmps112
    go_wp2
    go_ret
    exact ⟨ret_int HR.out.symm, rfl⟩

/-! the document's -/

theorem rsize_any (n : Int) (w : World) :
    Calls Tryz.prog 19 #[.int .i64 n] w fun e w' => e = .returned (.int .i64 (sizeL n)) ∧ w = w' := by
  by_cases h1 : n < 1
  · go_enter Tryz.func19, Tryz.ntmps19
    go_wp2
    go_ret
    exact ⟨ret_int (by unfold sizeL; rw [if_neg (by omega)]), rfl⟩
  · by_cases h2 : 12 < n
    · go_enter Tryz.func19, Tryz.ntmps19
      go_wp2
      go_ret
      exact ⟨ret_int (by unfold sizeL; rw [if_neg (by omega)]), rfl⟩
    · go_enter Tryz.func19, Tryz.ntmps19
      go_wp2
      go_ret
      exact ⟨ret_int (by unfold sizeL; rw [if_pos (by omega)]), rfl⟩

end Go.Proofs.YtebkeocpojlepaaGreatDoor

/- append of one byte to a row of the call's own, in a region that draws no order. -/
namespace Go.Proofs.YtebkeocpojlepaaGreatDoor
open Go.RowKit
set_option linter.unusedVariables false
set_option linter.unusedSimpArgs false

/-- append of one byte to a row of the call's own, in a region that draws no order -/
theorem list_append_byte {ops : Array Oper} {rest : List Oper} {o : Oper} {a : Act} {Q : Exit → Act → World → Prop} (w : World) (hgd : o.guard = none) (s x : Operand)
    (hop : o.op = .call { callee := .builtin .append, args := #[s, x], argTypes := #[108, 108] })
    {base : Nat} {v : Value} {l : List UInt8} {b : UInt8} {g : Nat} (hs : a.eval s = v) (hx : a.eval x = .slice (some ⟨g, 0, none⟩) 1 1)
    (hown : OwnsB w base v l) (hc : w.cell? ⟨g, 0, none⟩ = some (.int .u8 (b.toNat : Int))) (hlen : l.length + 1 ≤ 140737488355328) (hbase : base ≤ w.heap.size)
    (hK : ∀ v' w', OwnsB w' base v' (l ++ [b]) → Below base w w' → wpList Tryz.prog ops Q rest (a.put o.dst v') w') : wpList Tryz.prog ops Q (o :: rest) a w := by
  obtain ⟨i0, hi, hz0, hz1, hz2⟩ := info_parts infoB
  refine wpList_plain hgd fun K hKK => ?_
  refine wp_append_own w s x 108 hop base 5 i0 (.int .u8 0) 1 1 Tryz.underlying108 hi hz0 hz1 hz2 rfl (by decide) v l.length (bcells l) hs hown ⟨g, 0, none⟩ 1 1 [.int .u8 (b.toNat : Int)] hx rfl ?_ ?_ ?_ (by omega) hbase ?_
  · intro j u hj
    match j, hj with
    | 0, hj => simp at hj; subst hj; simpa [Addr.add] using hc
    | j + 1, hj => simp at hj
  · intro u hu; simp at hu; subst hu; rfl
  · unfold maxLen; omega
  · intro v' w' h2 h3 _
    exact hKK _ _ (hK v' w' (OwnsB.snoc h2) ((Below.refl base w).grown h3 hbase (fun k e => OwnsB.base_le hown k e)))

end Go.Proofs.YtebkeocpojlepaaGreatDoor
