/- Contracts and plain laws, put together: Calm, Marks. -/
import Derived.WalkKit
import Derived.BigQuiet
import Derived.Deep.QuietTactic
import Derived.Lib.Hide
import Derived.ScopeJumps
import Derived.WalkMore
/- A region that draws its order, whose own operations only read, and whose callees make memory but change nothing below block B: walked once. (Over the library's theorem wp_region_quiet, at the class of worlds that are below B as the one world was.) -/
namespace Go.Proofs.YtebkeocpojlepaaGreatDoor
open Go.RowKit

theorem bthen {w w1 w2 : World} (h1 : Below w.heap.size w w1) (h2 : Below w1.heap.size w1 w2) : Below w.heap.size w w2 := h1.trans (h2.mono h1.size)
theorem bdrew {B : Nat} {w w1 : World} (h1 : Below B w w1) (n : Nat) : Below B w (w1.drewN n) := ⟨h1.os, h1.tape, h1.output, h1.size, h1.block⟩
theorem ret_int {k : IntKind} {a b : Int} (h : a = b) : Ending.returned (.int k a) = .returned (.int k b) := by rw [h]
theorem ret_bool {a b : Bool} (h : a = b) : Ending.returned (.bool a) = .returned (.bool b) := by rw [h]

/-- a world that is below B as W was -/
structure CalmW (B : Nat) (W : World) where
  val : World
  below : Below B W val

instance calmNonempty (B : Nat) (W : World) : Nonempty (CalmW B W) := ⟨⟨W, Below.refl _ _⟩⟩

theorem wp_region_calm (B : Nat) {P : Program} {id : Nat} {Q : Exit → Act → World → Prop} {a : Act} {w : World} {l : List Oper} (hm : P.follows .mixedOrders = true) (hB : Region.lexB .any l.toArray = true)
    (h : wpQuiet P l.toArray (fun w' => ∃ n : CalmW B w, w' = n.val) (fun a' => ∀ w', (∃ n : CalmW B w, w' = n.val) → Q .normal a' w') l a) : (Code.region id l.toArray true).wp P Q a w :=
  wp_region_quiet (C := fun w' => ∃ n : CalmW B w, w' = n.val) hm hB ⟨⟨_, (Below.refl B w).drew⟩, rfl⟩ (by simpa using h)

/-- A callee's contract, met in a world of the class. -/
theorem calm_of {P : Program} {f : FuncId} {args : Array Value} {B : Nat} {w : World} {n : CalmW B w} {v : Value} (hB : B ≤ w.heap.size)
    (h : Calls P f args n.val fun e w' => e = .returned v ∧ Below n.val.heap.size n.val w') : Calls P f args n.val fun e w'' => e = .returned v ∧ ∃ m : CalmW B w, w'' = m.val :=
  h.mono fun _ w' ⟨he, hb⟩ => ⟨he, ⟨w', n.below.trans (hb.mono (Nat.le_trans hB n.below.size))⟩, rfl⟩

theorem calm_same {P : Program} {f : FuncId} {args : Array Value} {B : Nat} {w : World} {n : CalmW B w} {v : Value}
    (h : Calls P f args n.val fun e w' => e = .returned v ∧ n.val = w') : Calls P f args n.val fun e w'' => e = .returned v ∧ ∃ m : CalmW B w, w'' = m.val :=
  h.mono fun _ _ ⟨he, hb⟩ => ⟨he, n, hb.symm⟩

end Go.Proofs.YtebkeocpojlepaaGreatDoor

/- A scope with several labels: what holds at every jump to each of them, and a measure that every way from a label to a label lowers. -/
namespace Go.Proofs.YtebkeocpojlepaaGreatDoor
open Go.RowKit

/-- by a jump to label l: J l; else as Q -/
def marks (J : Nat → Act → World → Prop) (Q : Exit → Act → World → Prop) : Exit → Act → World → Prop
  | .goto l, a, w => J l a w
  | e, a, w => Q e a w
theorem marks_ret {J : Nat → Act → World → Prop} {Q : Exit → Act → World → Prop} {a : Act} {w : World} : marks J Q .ret a w = Q .ret a w := rfl
theorem marks_goto {J : Nat → Act → World → Prop} {Q : Exit → Act → World → Prop} {a : Act} {w : World} {l : Nat} : marks J Q (.goto l) a w = J l a w := rfl
theorem marks_normal {J : Nat → Act → World → Prop} {Q : Exit → Act → World → Prop} {a : Act} {w : World} : marks J Q .normal a w = Q .normal a w := rfl

theorem wp_scope_marks {P : Program} {a : Act} {w : World} {Q : Exit → Act → World → Prop} {c : Code} (J : Nat → Act → World → Prop) (μ : Nat → Act → World → Nat)
    (first : c.wp P (marks J Q) a w)
    (pass : ∀ l a w, J l a w → ∃ rest, findLabel c l = some rest ∧ rest.wp P (marks (fun l' a' w' => J l' a' w' ∧ μ l' a' w' < μ l a w) Q) a w) : (Code.scope c).wp P Q a w := by
  intro b k cs
  have key : ∀ (n l : Nat) (a : Act) (w : World), μ l a w = n → J l a w → ∃ rest, findLabel c l = some rest ∧ ∃ e a' w', Q e a' w' ∧ Arrives P (lone (b.at a (.code rest :: .inScope c :: k)) cs w) b k cs e a' w' := by
    intro n
    induction n using Nat.strongRecOn with
    | _ n ih =>
      intro l a w hn hJ
      obtain ⟨rest, hf, hr⟩ := pass l a w hJ
      refine ⟨rest, hf, ?_⟩
      obtain ⟨e, a1, w1, hq, har⟩ := hr b (.inScope c :: k) cs
      match e, hq, har with
      | .normal, hq, har => exact ⟨.normal, a1, w1, hq, Steps.trans har (.one step_inScope)⟩
      | .exit id, hq, har => exact ⟨.exit id, a1, w1, hq, fun k' hk => har k' (by simp [exitTo, hk])⟩
      | .goto l', hq, har =>
        obtain ⟨hJ', hlt⟩ := hq
        obtain ⟨rest', hf', e2, a2, w2, hq2, har2⟩ := ih _ (by omega) l' a1 w1 rfl hJ'
        exact ⟨e2, a2, w2, hq2, .of_steps (har _ (by simp [gotoIn, hf'])) har2⟩
      | .ret, hq, har => exact ⟨_, a1, w1, hq, har⟩
      | .panic ch, hq, har => exact ⟨_, a1, w1, hq, har⟩
      | .outgrown, hq, har => exact ⟨_, a1, w1, hq, har⟩
  obtain ⟨e, a1, w1, hq, har⟩ := first b (.inScope c :: k) cs
  match e, hq, har with
  | .normal, hq, har => exact ⟨.normal, a1, w1, hq, .head step_scope (Steps.trans har (.one step_inScope))⟩
  | .exit id, hq, har => exact ⟨.exit id, a1, w1, hq, fun k' hk => .head step_scope (har k' (by simp [exitTo, hk]))⟩
  | .goto l', hq, har =>
    obtain ⟨rest', hf', e2, a2, w2, hq2, har2⟩ := key _ l' a1 w1 rfl hq
    exact ⟨e2, a2, w2, hq2, .of_steps (.head step_scope (har _ (by simp [gotoIn, hf']))) har2⟩
  | .ret, hq, har => exact ⟨_, a1, w1, hq, .of_steps (.one step_scope) har⟩
  | .panic ch, hq, har => exact ⟨_, a1, w1, hq, .of_steps (.one step_scope) har⟩
  | .outgrown, hq, har => exact ⟨_, a1, w1, hq, .of_steps (.one step_scope) har⟩
end Go.Proofs.YtebkeocpojlepaaGreatDoor
