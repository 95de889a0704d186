/- Contracts and plain laws, put together: Parts. -/
import Derived.Test.YtebkeocpojlepaaGreatDoorG10
import Derived.Deep.MidRow
/- A struct stored into a part of a block: the world behind it under one name. -/
namespace Go.Proofs.YtebkeocpojlepaaGreatDoor
open Go.RowKit

def setAll (cs : Array Value) : Nat → List Value → Array Value
  | _, [] => cs
  | o, v :: r => setAll (cs.setIfInBounds o v) (o + 1) r
theorem blk_cells {g : Nat} {t : TypeId} : ∀ (vs : List Value) (o : Nat) (cs : Array Value) (W : World), Blk W g t cs → Blk (W.setCells g o vs) g t (setAll cs o vs)
  | [], _, _, _, h => h
  | v :: r, o, _, _, h => blk_cells r (o + 1) _ _ (h.set o v)
theorem blk_cells_far {g A : Nat} {t : TypeId} {cs : Array Value} (hA : A ≠ g) : ∀ (vs : List Value) (o : Nat) (W : World), Blk W A t cs → Blk (W.setCells g o vs) A t cs
  | [], _, _, h => h
  | v :: r, o, _, h => blk_cells_far hA r (o + 1) _ (h.other ⟨g, o, none⟩ hA v)
theorem below_cells {g base : Nat} {w0 : World} (hg : base ≤ g) : ∀ (vs : List Value) (o : Nat) (W : World), Below base w0 W → Below base w0 (W.setCells g o vs)
  | [], _, _, h => h
  | v :: r, o, _, h => below_cells hg r (o + 1) _ (h.setCell (p := ⟨g, o, none⟩) hg v)

theorem there_part {w : World} {g off n : Nat} {t : TypeId} {cs : Array Value} (k : Blk w g t cs) (hfit : off + n ≤ cs.size) : w.there g off n := fun j hj => by
  refine ⟨?_, k.frozen _⟩
  rw [k.cell, Array.getElem?_eq_getElem (by omega)]
  rfl

theorem wpList_store_part {P : Program} {ops : Array Oper} {rest : List Oper} {o : Oper} {a : Act} {w : World} {Q : Exit → Act → World → Prop} (hgd : o.guard = none) (ty : TypeId) (x y : Operand) (ho : o.op = .store ty x y)
    (g off : Nat) (new : Array Value) (hx : a.eval x = .pointer (some ⟨g, off, none⟩)) (hy : a.eval y = .agg new) (t : TypeId) (cs : Array Value) (k : Blk w g t cs) (hfit : off + new.size ≤ cs.size)
    (hi : (P.info? ty).map (·.size) = some new.size) (h1 : new.all (·.oneCell') = true) (cs2 : Array Value) (hcs : cs2 = setAll cs off new.toList)
    (h : ∀ W', Blk W' g t cs2 → (∀ A t' ds, A ≠ g → Blk w A t' ds → Blk W' A t' ds) → (∀ base w0, base ≤ g → Below base w0 w → Below base w0 W') → wpList P ops Q rest (a.put o.dst undef) W') : wpList P ops Q (o :: rest) a w := by
  refine wpList_store_mid hgd ty x y ho g off new hx hy (there_part k hfit) hi h1 ?_
  subst hcs
  exact h _ (blk_cells _ _ _ _ k) (fun A t' ds hA hb => blk_cells_far hA _ _ _ hb) (fun base w0 hg hb => below_cells hg _ _ _ hb)
theorem wp_store_part {P : Program} {o : Oper} {a : Act} {w : World} {K : Act → World → Prop} {Q : Exit → Act → World → Prop} (ty : TypeId) (x y : Operand) (ho : o.op = .store ty x y)
    (g off : Nat) (new : Array Value) (hx : a.eval x = .pointer (some ⟨g, off, none⟩)) (hy : a.eval y = .agg new) (t : TypeId) (cs : Array Value) (k : Blk w g t cs) (hfit : off + new.size ≤ cs.size)
    (hi : (P.info? ty).map (·.size) = some new.size) (h1 : new.all (·.oneCell') = true) (cs2 : Array Value) (hcs : cs2 = setAll cs off new.toList)
    (h : ∀ W', Blk W' g t cs2 → (∀ A t' ds, A ≠ g → Blk w A t' ds → Blk W' A t' ds) → (∀ base w0, base ≤ g → Below base w0 w → Below base w0 W') → K (a.put o.dst undef) W') : o.wp P a w K Q := by
  refine wp_store_mid ty x y ho g off new hx hy (there_part k hfit) hi h1 ?_
  subst hcs
  exact h _ (blk_cells _ _ _ _ k) (fun A t' ds hA hb => blk_cells_far hA _ _ _ hb) (fun base w0 hg hb => below_cells hg _ _ _ hb)
end Go.Proofs.YtebkeocpojlepaaGreatDoor
