/- The law ScanFills, for every input. -/
import Derived.Test.YtopcklbeppiipaaFillW
namespace Go.Proofs.Ytopcklbeppiipaa
open Go.RowKit
set_option linter.unusedVariables false
set_option linter.unusedSimpArgs false

theorem fills_short (n : Nat) (hn : n < 256) (p : Option Addr) (len cap : Nat) (h : (len : Int) < 1 + (n : Int) % 12) (w : World) :
    Calls Try.prog 7 #[.int .u8 (n : Int), .slice p len cap] w fun e w' => e = .returned (.bool true) ∧ Below w.heap.size w w' := by
  have hl : len ≤ 13 := by omega
  go_enter Try.func7, Try.ntmps7
  go_wp2_with (with_reducible refine (shown9_any _).mono ?_; rintro e w1 ⟨rfl, b1⟩)
  go_ret
  exact ⟨rfl, b1⟩

theorem fills_nil (n : Int) (hn : (Lit.int .u8 n).wf = true) (w : World) :
    Calls Try.prog 7 #[.int .u8 n, .slice none 0 0] w fun e w' => e = .returned (.bool true) ∧ Below w.heap.size w w' := by
  have hb : 0 ≤ n ∧ n < 256 := by simp [Lit.wf, IntKind.min, IntKind.max, IntKind.signed, IntKind.bits] at hn; omega
  obtain ⟨n, rfl⟩ : ∃ x : Nat, n = (x : Int) := ⟨n.toNat, by omega⟩
  exact fills_short n (by omega) none 0 0 (by omega) w

theorem fills_row (n : Int) (hn : (Lit.int .u8 n).wf = true) (a : Addr) (len cap : Nat) (zs : List Int) (hlz : len ≤ zs.length) (hlm : len ≤ maxLen) (w : World)
    (hc : ∀ i, i < zs.length → w.cell? (a.add i) = some (.int .u64 (zs.getD i 0))) (hz : ∀ n ∈ zs, (Lit.int .u64 n).wf = true) :
    Calls Try.prog 7 #[.int .u8 n, .slice (some a) len cap] w fun e w' => e = .returned (.bool true) ∧ Below w.heap.size w w' := by
  have hb : 0 ≤ n ∧ n < 256 := by simp [Lit.wf, IntKind.min, IntKind.max, IntKind.signed, IntKind.bits] at hn; omega
  obtain ⟨n, rfl⟩ : ∃ x : Nat, n = (x : Int) := ⟨n.toNat, by omega⟩
  by_cases h : (len : Int) < 1 + (n : Int) % 12
  · exact fills_short n (by omega) (some a) len cap h w
  · obtain ⟨B, o, sp⟩ := a
    have h0 := hc 0 (by omega)
    have hsp : sp = none := by
      cases sp with
      | none => rfl
      | some x =>
        rw [show (Addr.add ⟨B, o, some x⟩ 0) = ⟨B, o, some x⟩ from rfl] at h0
        unfold World.cell? at h0
        split at h0
        · simp at h0
        · simp at h0
    subst hsp
    have hB := World.block_lt_of_cell? _ _ h0
    have hzz : ∀ j : Nat, j < zs.length → 0 ≤ zs.getD j 0 ∧ zs.getD j 0 < 18446744073709551616 := fun j hj => by
      have hm : zs.getD j 0 ∈ zs := by rw [List.getD_eq_getElem?_getD, List.getElem?_eq_getElem hj]; exact List.getElem_mem hj
      have := hz _ hm
      generalize zs.getD j 0 = v at *
      simp [Lit.wf, IntKind.min, IntKind.max, IntKind.signed, IntKind.bits] at this
      omega
    refine fills_law (1 + n % 12) n B o len cap (fun j => (zs.getD j 0).toNat) (by omega) (by omega) (by omega) (by omega) (by omega) hlm w hB (fun j hj => ?_)
    have h1 := hzz j (by omega)
    refine ⟨by omega, ?_⟩
    have := hc j (by omega)
    rw [show (((zs.getD j 0).toNat : Nat) : Int) = zs.getD j 0 by omega]
    rw [show (Addr.add ⟨B, o, none⟩ j) = ⟨B, o + j, none⟩ by unfold Addr.add; by_cases hj0 : j = 0 <;> simp [hj0]] at this
    exact this
end Go.Proofs.Ytopcklbeppiipaa
