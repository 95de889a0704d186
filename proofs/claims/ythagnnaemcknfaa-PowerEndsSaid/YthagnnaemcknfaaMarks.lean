/- A scope with several labels: what holds at every jump to each of them, and a measure that every way from a label to a label lowers. -/
import Derived.ScopeJumps
import Derived.WalkMore
import Derived.Test.YthagnnaemcknfaaCalm
namespace Go.Proofs.Ythagnnaemcknfaa
open Go.RowKit

/-- by a jump to label l: J l; else as Q -/
def marks (J : Nat → Act → World → Prop) (Q : Exit → Act → World → Prop) : Exit → Act → World → Prop
  | .goto l, a, w => J l a w
  | e, a, w => Q e a w
theorem marks_ret {J : Nat → Act → World → Prop} {Q : Exit → Act → World → Prop} {a : Act} {w : World} : marks J Q .ret a w = Q .ret a w := rfl
theorem marks_goto {J : Nat → Act → World → Prop} {Q : Exit → Act → World → Prop} {a : Act} {w : World} {l : Nat} : marks J Q (.goto l) a w = J l a w := rfl
theorem marks_normal {J : Nat → Act → World → Prop} {Q : Exit → Act → World → Prop} {a : Act} {w : World} : marks J Q .normal a w = Q .normal a w := rfl

theorem wp_scope_marks {P : Program} {a : Act} {w : World} {Q : Exit → Act → World → Prop} {c : Code} (J : Nat → Act → World → Prop) (μ : Nat → Act → World → Nat)
    (first : c.wp P (marks J Q) a w)
    (pass : ∀ l a w, J l a w → ∃ rest, findLabel c l = some rest ∧ rest.wp P (marks (fun l' a' w' => J l' a' w' ∧ μ l' a' w' < μ l a w) Q) a w) : (Code.scope c).wp P Q a w := by
  intro b k cs
  have key : ∀ (n l : Nat) (a : Act) (w : World), μ l a w = n → J l a w → ∃ rest, findLabel c l = some rest ∧ ∃ e a' w', Q e a' w' ∧ Arrives P (lone (b.at a (.code rest :: .inScope c :: k)) cs w) b k cs e a' w' := by
    intro n
    induction n using Nat.strongRecOn with
    | _ n ih =>
      intro l a w hn hJ
      obtain ⟨rest, hf, hr⟩ := pass l a w hJ
      refine ⟨rest, hf, ?_⟩
      obtain ⟨e, a1, w1, hq, har⟩ := hr b (.inScope c :: k) cs
      match e, hq, har with
      | .normal, hq, har => exact ⟨.normal, a1, w1, hq, Steps.trans har (.one step_inScope)⟩
      | .exit id, hq, har => exact ⟨.exit id, a1, w1, hq, fun k' hk => har k' (by simp [exitTo, hk])⟩
      | .goto l', hq, har =>
        obtain ⟨hJ', hlt⟩ := hq
        obtain ⟨rest', hf', e2, a2, w2, hq2, har2⟩ := ih _ (by omega) l' a1 w1 rfl hJ'
        exact ⟨e2, a2, w2, hq2, .of_steps (har _ (by simp [gotoIn, hf'])) har2⟩
      | .ret, hq, har => exact ⟨_, a1, w1, hq, har⟩
      | .panic ch, hq, har => exact ⟨_, a1, w1, hq, har⟩
      | .outgrown, hq, har => exact ⟨_, a1, w1, hq, har⟩
  obtain ⟨e, a1, w1, hq, har⟩ := first b (.inScope c :: k) cs
  match e, hq, har with
  | .normal, hq, har => exact ⟨.normal, a1, w1, hq, .head step_scope (Steps.trans har (.one step_inScope))⟩
  | .exit id, hq, har => exact ⟨.exit id, a1, w1, hq, fun k' hk => .head step_scope (har k' (by simp [exitTo, hk]))⟩
  | .goto l', hq, har =>
    obtain ⟨rest', hf', e2, a2, w2, hq2, har2⟩ := key _ l' a1 w1 rfl hq
    exact ⟨e2, a2, w2, hq2, .of_steps (.head step_scope (har _ (by simp [gotoIn, hf']))) har2⟩
  | .ret, hq, har => exact ⟨_, a1, w1, hq, .of_steps (.one step_scope) har⟩
  | .panic ch, hq, har => exact ⟨_, a1, w1, hq, .of_steps (.one step_scope) har⟩
  | .outgrown, hq, har => exact ⟨_, a1, w1, hq, .of_steps (.one step_scope) har⟩
end Go.Proofs.Ythagnnaemcknfaa
