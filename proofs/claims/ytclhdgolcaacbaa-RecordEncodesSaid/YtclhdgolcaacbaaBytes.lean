/- Slices of bytes that the call itself makes: owned rows of bytes; append of one byte; string(b). -/
import Derived.Test.YtclhdgolcaacbaaRows
import Derived.Test.YtclhdgolcaacbaaCalm
import Derived.WalkSpells
import Derived.WalkLawsBesides
import Derived.Deep.RegionLaw
namespace Go.Proofs.Ytclhdgolcaacbaa
open Go.RowKit

/-- bytes as cells -/
def bcells (l : List UInt8) : List Value := l.map fun b => Value.int .u8 (b.toNat : Int)
theorem bcells_length (l : List UInt8) : (bcells l).length = l.length := by simp [bcells]
theorem bcells_snoc (l : List UInt8) (b : UInt8) : bcells (l ++ [b]) = bcells l ++ [Value.int .u8 (b.toNat : Int)] := by simp [bcells]
theorem bcells_get (l : List UInt8) (j : Nat) : (bcells l)[j]? = (l[j]?).map fun b => Value.int .u8 (b.toNat : Int) := by simp [bcells]

/-- the slice value v owns the bytes l, in blocks from base on -/
def OwnsB (w : World) (base : Nat) (v : Value) (l : List UInt8) : Prop := w.ownsRow base 5 1 v l.length (bcells l)

theorem infoB : (Try.prog.info? 5).map (fun i => (i.zero, i.size, i.bytes)) = some (some (.int .u8 0), 1, 1) := by kernel_rfl

theorem OwnsB.snoc {w : World} {base : Nat} {v : Value} {l : List UInt8} {b : UInt8} (h : w.ownsRow base 5 1 v (l.length + 1) (bcells l ++ [Value.int .u8 (b.toNat : Int)])) : OwnsB w base v (l ++ [b]) := by
  unfold OwnsB; rw [bcells_snoc]; simpa using h

theorem OwnsB.below {w w' : World} {base : Nat} {v : Value} {l : List UInt8} (h : OwnsB w base v l) (hb : Below w.heap.size w w') : OwnsB w' base v l := by
  obtain ⟨h1, h2⟩ := h
  refine ⟨h1, ?_⟩
  rcases h2 with h2 | ⟨g, cap, cur, hv, hg, hh, r⟩
  · exact .inl h2
  · have hlt : g < w.heap.size := by
      rcases Nat.lt_or_ge g w.heap.size with h | h
      · exact h
      · rw [Array.getElem?_eq_none h] at hh; cases hh
    exact .inr ⟨g, cap, cur, hv, hg, by rw [hb.block g hlt]; exact hh, r⟩

/-- string(b) of bytes that lie in cells -/
theorem conv_cells (w : World) (g off cap : Nat) (l : List UInt8) (h : ∀ j (hj : j < l.length), w.cell? ⟨g, off + j, none⟩ = some (.int .u8 (l[j].toNat : Int))) :
    (convert 41 9 (.slice (some ⟨g, off, none⟩) l.length cap)).run Try.prog w = .ok (.string ⟨l.toArray⟩) w := by
  refine run_convert_bytes_back _ _ _ 5 _ _ l Try.underlying41 Try.underlying5 Try.underlying9 ?_
  intro j hj
  have e : (⟨g, off, none⟩ : Addr).add j = ⟨g, off + j, none⟩ := by simp [Addr.add]
  rw [e]
  exact h j hj

theorem conv_nil (w : World) : (convert 41 9 (.slice none 0 0)).run Try.prog w = .ok (.string ⟨#[]⟩) w := by
  rw [run_convert_bytes_string w _ _ 5 none 0 0 Try.underlying41 Try.underlying5 Try.underlying9]
  simp [Conv.bytesToString, go_sem]; rfl

theorem conv_own {w : World} {base : Nat} {v : Value} {l : List UInt8} (h : OwnsB w base v l) :
    (convert 41 9 v).run Try.prog w = .ok (.string ⟨l.toArray⟩) w := by
  have h' := h
  obtain ⟨h1, h2⟩ := h
  rcases h2 with ⟨rfl, h0⟩ | ⟨g, cap, cur, rfl, hg, hh, r⟩
  · obtain rfl : l = [] := List.length_eq_zero_iff.1 h0
    exact conv_nil w
  · exact conv_cells w g 0 cap l fun j hj => by
      rw [Nat.zero_add, World.ownsRow.cellAt h' j (by omega), bcells_get]; simp [hj]

theorem own_empty (w : World) (base : Nat) : OwnsB w base (.slice none 0 0) [] := World.ownsRow_nil w base _ 1

theorem OwnsB.base_le {w : World} {base : Nat} {v : Value} {l : List UInt8} (h : OwnsB w base v l) : ∀ k, v.ownBlock = some k → base ≤ k := by
  intro k hk
  obtain ⟨_, h2⟩ := h
  rcases h2 with ⟨rfl, _⟩ | ⟨g, cap, cur, rfl, hg, _⟩
  · simp [Value.ownBlock] at hk
  · simp [Value.ownBlock] at hk; omega

/-- append of one byte to a row of the call's own, as a step of a region. W0: a world in which the row is owned, and below whose size nothing has changed since. -/
theorem step_append_byte {ops : Array Oper} {o : Oper} {a : Act} {w : World} {K : Act → World → Prop} {Q : Exit → Act → World → Prop} {E : Prop}
    (hg : o.guard = none) (s x : Operand) (hop : o.op = Op.call { callee := Callee.builtin Builtin.append, args := #[s, x], argTypes := #[41, 41] })
    {W0 : World} {base : Nat} {v : Value} {l : List UInt8} {b : UInt8} {g : Nat} (hs : a.eval s = v) (hx : a.eval x = .slice (some ⟨g, 0, none⟩) 1 1)
    (hown : OwnsB W0 base v l) (hbw : Below W0.heap.size W0 w) (hc : w.cell? ⟨g, 0, none⟩ = some (.int .u8 (b.toNat : Int))) (hlen : l.length + 1 ≤ 140737488355328) (hbase : base ≤ w.heap.size)
    (hK : ∀ v' w', OwnsB w' base v' (l ++ [b]) → Below base w w' → K (a.put o.dst v') w') :
    if Region.wanted o (yielded ops a.tmps) = true then Oper.wp Try.prog o a w K Q else E := by
  have hw : Region.wanted o (yielded ops a.tmps) = true := by simp [Region.wanted, hg]
  rw [if_pos hw]
  obtain ⟨i0, hi, hz0, hz1, hz2⟩ := info_parts infoB
  have hown' := hown.below hbw
  refine wp_append_own w s x 41 hop base 5 i0 (.int .u8 0) 1 1 Try.underlying41 hi hz0 hz1 hz2 rfl (by decide) v l.length (bcells l) hs hown' ⟨g, 0, none⟩ 1 1 [.int .u8 (b.toNat : Int)] hx rfl ?_ ?_ ?_ (by omega) hbase ?_
  · intro j u hj
    match j, hj with
    | 0, hj => simp at hj; subst hj; simpa [Addr.add] using hc
    | j + 1, hj => simp at hj
  · intro u hu; simp at hu; subst hu; rfl
  · unfold maxLen; omega
  · intro v' w' h2 h3 _
    exact hK v' w' (OwnsB.snoc h2) ((Below.refl base w).grown h3 hbase (fun k e => OwnsB.base_le hown k e))

/-- block T holds these bytes, and none of them is frozen -/
def Row (w : World) (T : Nat) (l : List UInt8) : Prop := ∀ j (hj : j < l.length), w.cell? ⟨T, j, none⟩ = some (.int .u8 (l[j].toNat : Int)) ∧ w.frozen? ⟨T, j, none⟩ = false

theorem Row.set {w : World} {T : Nat} {l : List UInt8} (h : Row w T l) (j : Nat) (b : UInt8) : Row (w.setCell ⟨T, j, none⟩ (.int .u8 (b.toNat : Int))) T (l.set j b) := by
  intro i hi
  rw [List.length_set] at hi
  refine ⟨?_, by rw [World.frozen?_setCell]; exact (h i hi).2⟩
  by_cases e : j = i
  · subst e
    rw [World.cell?_setCell_same' _ _ _ (by rw [(h j hi).1]; rfl)]
    simp
  · rw [World.cell?_setCell_other _ _ _ _ (by intro e2; cases e2; exact e rfl), (h i hi).1]
    simp [e]

theorem Row.other {w : World} {T : Nat} {l : List UInt8} (h : Row w T l) (a : Addr) (ha : a.block ≠ T) (v : Value) : Row (w.setCell a v) T l := by
  intro i hi
  refine ⟨?_, by rw [World.frozen?_setCell]; exact (h i hi).2⟩
  rw [World.cell?_setCell_other _ _ _ _ (by intro e2; subst e2; exact ha rfl)]
  exact (h i hi).1

theorem Row.drew {w : World} {T : Nat} {l : List UInt8} (h : Row w T l) : Row w.drew T l := h

theorem Row.below {w w' : World} {T B : Nat} {l : List UInt8} (h : Row w T l) (hb : Below B w w') (hT : T < B) : Row w' T l :=
  fun i hi => ⟨(hb.cell (p := ⟨T, i, none⟩) hT).trans (h i hi).1, (hb.frozen (p := ⟨T, i, none⟩) hT).trans (h i hi).2⟩

/-- []byte(s) -/
theorem Row.ofString (w : World) (s : ByteArray) (c : Nat) (fr : Nat) (hfr : s.size ≤ fr) :
    Row (w.alloc (.cells (bytesRow s c) 5 (fr, fr + 1))) w.heap.size s.data.toList := by
  intro i hi
  have hi' : i < s.size := by simpa using hi
  constructor
  · rw [World.cell?_alloc_mark]
    unfold bytesRow
    rw [Array.getElem?_append_left (by simpa using hi')]
    simp [hi']
  · have hh : (w.alloc (.cells (bytesRow s c) 5 (fr, fr + 1))).heap[w.heap.size]? = some (.cells (bytesRow s c) 5 (fr, fr + 1)) := heap_alloc_new w _
    unfold World.frozen?
    rw [hh]
    simp
    omega

theorem bytesRow_size (s : ByteArray) (c : Nat) : s.size ≤ (bytesRow s c).size := by
  unfold bytesRow; rw [Array.size_append]; simp

/-- a block of cells, none of them frozen -/
def Blk (W : World) (B : Nat) (t : TypeId) (cs : Array Value) : Prop := W.heap[B]? = some (.cells cs t (0, 0))

theorem Blk.lt {W : World} {B : Nat} {t : TypeId} {cs : Array Value} (h : Blk W B t cs) : B < W.heap.size := (Array.getElem?_eq_some_iff.1 h).1
theorem Blk.cell {W : World} {B : Nat} {t : TypeId} {cs : Array Value} (h : Blk W B t cs) (j : Nat) : W.cell? ⟨B, j, none⟩ = cs[j]? := cell_of_row W B j cs t (0, 0) h
theorem Blk.frozen {W : World} {B : Nat} {t : TypeId} {cs : Array Value} (h : Blk W B t cs) (j : Nat) : W.frozen? ⟨B, j, none⟩ = false := frozen_of_row W B j cs t h
theorem Blk.new (W : World) (t : TypeId) (cs : Array Value) : Blk (W.alloc (.cells cs t)) W.heap.size t cs := heap_alloc_new W _
theorem Blk.alloc {W : World} {B : Nat} {t : TypeId} {cs : Array Value} (h : Blk W B t cs) (o : Obj) : Blk (W.alloc o) B t cs := (Below.heap_alloc W o B h.lt).trans h
theorem Blk.drew {W : World} {B : Nat} {t : TypeId} {cs : Array Value} (h : Blk W B t cs) : Blk W.drew B t cs := h
theorem Blk.set {W : World} {B : Nat} {t : TypeId} {cs : Array Value} (h : Blk W B t cs) (j : Nat) (v : Value) : Blk (W.setCell ⟨B, j, none⟩ v) B t (cs.setIfInBounds j v) := heap_setCell_same W B j cs t v h
theorem Blk.other {W : World} {B : Nat} {t : TypeId} {cs : Array Value} (h : Blk W B t cs) (a : Addr) (ha : B ≠ a.block) (v : Value) : Blk (W.setCell a v) B t cs := (heap_setCell_other W a B v ha).trans h
theorem Blk.below {W W' : World} {B B' : Nat} {t : TypeId} {cs : Array Value} (h : Blk W B t cs) (hb : Below B' W W') (hB : B < B') : Blk W' B t cs := (hb.block B hB).trans h

theorem bcells_set (l : List UInt8) (j : Nat) (b : UInt8) : (bcells l).toArray.setIfInBounds j (.int .u8 (b.toNat : Int)) = (bcells (l.set j b)).toArray := by
  simp [bcells]

/-- make([]byte, n) -/
theorem mk_bytes (n : Nat) (hn : n ≤ 140737488355328) (w : World) :
    (Instr.makeSlice 41 (.int .i64 (n : Int)) (.int .i64 (n : Int))).run Try.prog w = .ok (.slice (some ⟨w.heap.size, 0, none⟩) n n) (w.alloc (.cells (bcells (List.replicate n 0)).toArray 5)) := by
  obtain ⟨i0, hi, hz0, hz1, hz2⟩ := info_parts infoB
  have hr := run_make (P := Try.prog) w 41 5 i0 (.int .u8 0) Try.underlying41 hi hz0 .i64 .i64 (n : Int) (n : Int) (by omega) (Int.le_refl _) (by rw [hz2]; omega) (by omega)
  rw [hr, hz1]
  have e : madeCells (Value.int IntKind.u8 0).cells (n * 1) = (bcells (List.replicate n 0)).toArray := by
    apply Array.ext'
    rw [Nat.mul_one]
    show (madeCells #[Value.int IntKind.u8 0] n).toList = _
    rw [toList_madeCells_one]
    simp [bcells]
  rw [Int.toNat_natCast, e]

end Go.Proofs.Ytclhdgolcaacbaa
