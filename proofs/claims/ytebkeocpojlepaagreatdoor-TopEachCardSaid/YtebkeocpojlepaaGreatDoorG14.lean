/- Contracts and plain laws, put together: MapLit. -/
import Derived.Test.YtebkeocpojlepaaGreatDoorG07
import Derived.RangeFuncKeeps
import Derived.MapKept
/- command.Delta's map literal of bound methods: its six entries, and what is looked up in it. -/
namespace Go.Proofs.YtebkeocpojlepaaGreatDoor
open Go.RowKit
set_option linter.unusedVariables false
set_option linter.unusedSimpArgs false

theorem get_map {W : World} {g : Nat} {es : Array MapEntry} {clk : Nat} (hg : W.heap[g]? = some (.map es clk)) : (getObj g).run Tryz.prog W = .ok (.map es clk) W := by simp [getObj, Sem.run, hg]
theorem set_map {W : World} {g : Nat} {es : Array MapEntry} {clk : Nat} (o : Obj) (hg : W.heap[g]? = some (.map es clk)) : (setObj g o).run Tryz.prog W = .ok () (W.putObj g o) := by simp [setObj, Sem.run, hg, World.putObj]
theorem key_ok (e : Bool) (k : Int) (W : World) : (Instr.checkKey e 10000 3 (.int .i64 k)).run Tryz.prog W = .ok () W := MapKept.run_checkKey (n := 9999) Tryz.underlying3 (by first | exact ⟨k, rfl⟩ | simp [MapKept.IsKey]) e
theorem key_find {k : Int} {l : List MapEntry} {a : Option (Nat × Value)} (h : Instr.findNow (.int .i64) (.int .i64 k) l 0 = some a) (W : World) : (Instr.findKey 3 (.int .i64 k) l).run Tryz.prog W = .ok a W := MapKept.run_findKey Tryz.underlying3 h

theorem map_put (W : World) (g : Nat) (es : Array MapEntry) (clk : Nat) (k : Int) (v : Value) (hg : W.heap[g]? = some (.map es clk)) (hf : Instr.findNow (.int .i64) (.int .i64 k) es.toList 0 = some none) :
    (Instr.mapUpdate 88 (.map (some g)) (.int .i64 k) v).run Tryz.prog W = .ok () (W.putObj g (.map (es.push { key := .int .i64 k, val := v, born := clk }) (clk + 1))) := by
  have h1 := get_map hg
  have h2 := fun o => set_map o hg
  unfold Instr.mapUpdate
  have h4 := key_ok
  have h5 := key_find hf
  simp [go_sem, Tryz.underlying88, Tryz.underlying3, h1, h2, h4, h5, World.putObj, Result.andThen]

theorem map_hit (W : World) (g : Nat) (es : Array MapEntry) (clk i : Nat) (k : Int) (v : Value) (hg : W.heap[g]? = some (.map es clk)) (hf : Instr.findNow (.int .i64) (.int .i64 k) es.toList 0 = some (some (i, v))) (hne : es.isEmpty = false) :
    (Instr.lookup 88 (.map (some g)) (.int .i64 k) true).run Tryz.prog W = .ok (.tuple #[v, .bool true]) W := by
  have h1 := get_map hg
  unfold Instr.lookup
  have h4 := key_ok
  have h5 := key_find hf
  simp [go_sem, Tryz.underlying88, Tryz.underlying3, h1, h4, h5, Result.andThen]

theorem map_miss (W : World) (g : Nat) (es : Array MapEntry) (clk : Nat) (k : Int) (hg : W.heap[g]? = some (.map es clk)) (hf : Instr.findNow (.int .i64) (.int .i64 k) es.toList 0 = some none) (hne : es.isEmpty = false) :
    (Instr.lookup 88 (.map (some g)) (.int .i64 k) true).run Tryz.prog W = .ok (.tuple #[.nilFunc, .bool false]) W := by
  have h1 := get_map hg
  have h3 : (zeroValue 86).run Tryz.prog W = .ok .nilFunc W := by kernel_rfl
  unfold Instr.lookup
  have h4 := key_ok
  have h5 := key_find hf
  simp [go_sem, Tryz.underlying88, Tryz.underlying3, h1, h4, h5, h3, Result.andThen]

def fnV (n : Nat) (X : Nat) : Value := .func (.func n) #[.pointer (some ⟨X, 0, none⟩)] #[]
/-- the entries -/
def ents (X : Nat) : List MapEntry := [⟨.int .i64 1, fnV 36 X, 0⟩, ⟨.int .i64 2, fnV 37 X, 1⟩, ⟨.int .i64 3, fnV 38 X, 2⟩,
  ⟨.int .i64 4, fnV 39 X, 3⟩, ⟨.int .i64 5, fnV 40 X, 4⟩, ⟨.int .i64 6, fnV 40 X, 5⟩]
/-- the world when k entries are in -/
def mapW (W : World) (X k : Nat) : World := match k with
  | 0 => W.alloc (.map #[] 0)
  | k + 1 => (mapW W X k).putObj W.heap.size (.map ((ents X).take (k + 1)).toArray (k + 1))
theorem mapW_size (W : World) (X k : Nat) : (mapW W X k).heap.size = W.heap.size + 1 := by
  induction k with
  | zero => simp [mapW]
  | succ k ih => simp [mapW, ih]
theorem mapW_at (W : World) (X k : Nat) : (mapW W X k).heap[W.heap.size]? = some (.map ((ents X).take k).toArray k) := by
  cases k with
  | zero => simpa [mapW] using World.alloc_heap_new W (.map #[] 0)
  | succ k => exact World.putObj_heap_same (by rw [mapW_size]; omega)
theorem mapW_below (W : World) (X k : Nat) : Below W.heap.size W (mapW W X k) := by
  induction k with
  | zero => exact (Below.refl _ _).alloc (Nat.le_refl _) _
  | succ k ih => exact ih.trans ((Below.refl _ _).grown (grownBy_putObj' _ _ _) (by rw [mapW_size]; omega) (fun k e => by cases e; exact Nat.le_refl _))
theorem mapW_put (W : World) (X k : Nat) (hk : k < 6) (v : Value) (hv : (ents X)[k]? = some ⟨.int .i64 ((k : Int) + 1), v, k⟩) :
    (Instr.mapUpdate 88 (.map (some W.heap.size)) (.int .i64 ((k : Int) + 1)) v).run Tryz.prog (mapW W X k) = .ok () (mapW W X (k + 1)) := by
  have h := map_put (mapW W X k) W.heap.size _ k ((k : Int) + 1) v (mapW_at W X k) (by
    obtain rfl | rfl | rfl | rfl | rfl | rfl : k = 0 ∨ k = 1 ∨ k = 2 ∨ k = 3 ∨ k = 4 ∨ k = 5 := by omega
    all_goals rfl)
  rw [h]
  have e : (((ents X).take k).toArray.push { key := .int .i64 ((k : Int) + 1), val := v, born := k }) = ((ents X).take (k + 1)).toArray := by
    rw [List.take_add_one, hv]; simp
  rw [e]; rfl
theorem map_mk (W : World) (X : Nat) : (Instr.makeMap 88 none).run Tryz.prog W = .ok (.map (some W.heap.size)) (mapW W X 0) := rfl
end Go.Proofs.YtebkeocpojlepaaGreatDoor
