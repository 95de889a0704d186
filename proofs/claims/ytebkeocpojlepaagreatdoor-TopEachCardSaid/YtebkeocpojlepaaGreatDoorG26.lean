/- Contracts and plain laws, put together: TopE. -/
import Derived.Test.YtebkeocpojlepaaGreatDoorG25
/- Plain laws of TopTwice and TopEach. -/
namespace Go.Proofs.YtebkeocpojlepaaGreatDoor
set_option linter.unusedVariables false
set_option linter.unusedSimpArgs false

/-- behind a command that is cut anywhere the flash says some legal state: the one ahead of it, or its own -/
theorem cut_says {m k : Nat} {L : Int} {X : Su} (K : Keeps m L k X) (hk : (k : Int) < L) (hK : k < 1000000) (c : Cm) (cut : Int) (mask : ByteArray) :
    ∃ s, legalB s = true ∧ JI m L (k + 1) (packN s) (cmdX X c cut mask).f ∧ (s = X.s ∨ deltaE X.s c = 0 ∧ s = deltaS X.s c) := by
  rcases (cmd_cut K hk hK c cut mask).1 with h | ⟨h1, h2⟩
  · exact ⟨X.s, K.leg, h, .inl rfl⟩
  · exact ⟨_, delta_legal K.leg c, h2, .inr ⟨h1, rfl⟩⟩
theorem twice_plain {m k : Nat} {L : Int} {X : Su} (K : Keeps m L k X) (hk : (k : Int) + 2 < L) (hK : k < 1000) (c d : Cm) (cut1 cut2 : Int) (mask1 mask2 : ByteArray) :
    Keeps m L (k + 2) (seenX (cmdX X c cut1 mask1).f 2) ∧
    (eqSt (bootV (cmdX (seenX (cmdX X c cut1 mask1).f 2) d cut2 mask2).f).s (seenX (cmdX X c cut1 mask1).f 2).s = true ∨
      deltaE (seenX (cmdX X c cut1 mask1).f 2).s d = 0 ∧ eqSt (bootV (cmdX (seenX (cmdX X c cut1 mask1).f 2) d cut2 mask2).f).s (deltaS (seenX (cmdX X c cut1 mask1).f 2).s d) = true) := by
  obtain ⟨s, h1, h2, _⟩ := cut_says K (by omega) (by omega) c cut1 mask1
  obtain ⟨a, _, _⟩ := seen_law h2 h1 (by omega) (by omega) 2 (.inr rfl)
  obtain ⟨s', h3, h4, h5⟩ := cut_says a (by omega) (by omega) d cut2 mask2
  refine ⟨a, ?_⟩
  rw [boot_says h4 h3]
  rcases h5 with rfl | ⟨e, rfl⟩
  · exact .inl (eqSt_self _)
  · exact .inr ⟨e, eqSt_self _⟩
theorem each_plain {m k : Nat} {L : Int} {X : Su} (K : Keeps m L k X) (hk : (k : Int) < L) (hK : k < 1000) (c : Cm) (hE : deltaE X.s c = 0) (hS : eqSt X.s (deltaS X.s c) = false) (cut : Int) (mask : ByteArray) :
    (eqSt (bootV (cmdX X c cut mask).f).s (deltaS X.s c) = true ∧ (cut = 6 → cmdE X c cut mask = 0) ∧ eqSt (bootV (cmdX X c cut mask).f).s X.s = false) ∨
    (eqSt (bootV (cmdX X c cut mask).f).s X.s = true ∧ cmdE X c cut mask ≠ 0 ∧ cut ≠ 6) := by
  have hne : deltaS X.s c ≠ X.s := fun e => by rw [e, eqSt_self] at hS; cases hS
  obtain ⟨h1, h2⟩ := cmd_cut K hk (by omega) c cut mask
  obtain ⟨h3, h4⟩ := h2 hE hne
  have hb : ∀ s, legalB s = true → JI m L (k + 1) (packN s) (cmdX X c cut mask).f → (bootV (cmdX X c cut mask).f).s = s := fun s l j => by rw [boot_says j l]
  have hl := delta_legal K.leg c
  have nf : ∀ a b : St, a ≠ b → eqSt a b = false := fun a b h => by
    cases e : eqSt a b
    · rfl
    · exact absurd ((eqSt_iff _ _).1 e) h
  rcases h1 with h1 | ⟨_, h1⟩
  · by_cases he : cmdE X c cut mask = 0
    · left
      rw [hb _ hl (h3 he)]
      exact ⟨eqSt_self _, fun _ => he, nf _ _ hne⟩
    · right
      rw [hb _ K.leg h1]
      exact ⟨eqSt_self _, he, fun h6 => he (h4 (.inr (by omega)))⟩
  · left
    rw [hb _ hl h1]
    exact ⟨eqSt_self _, fun h6 => h4 (.inr (by omega)), nf _ _ hne⟩
end Go.Proofs.YtebkeocpojlepaaGreatDoor
