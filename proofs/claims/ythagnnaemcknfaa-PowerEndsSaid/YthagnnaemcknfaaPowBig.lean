/- dogwatchlaw04.big. -/
import Derived.Test.YthagnnaemcknfaaPlayA
namespace Go.Proofs.Ythagnnaemcknfaa
open Go.RowKit
set_option linter.unusedVariables false
set_option linter.unusedSimpArgs false

def bigD (L : List Oq) : Bool := (L.take 30).any fun o => decide (300 < o.data.size)
def bigB (f : Fl) (L : List Oq) (mask : ByteArray) : Bool := bigD L || (decide (500 < f.a.size) || (decide (500 < f.b.size) || (decide (20 < L.length) || decide (600 < mask.size))))
theorem bigB_no {f : Fl} {L : List Oq} {mask : ByteArray} (h : bigB f L mask = false) : (∀ i (hi : i < L.length), i < 30 → L[i].data.size ≤ 300) ∧ f.a.size ≤ 500 ∧ f.b.size ≤ 500 ∧ L.length ≤ 20 ∧ mask.size ≤ 600 := by
  unfold bigB at h
  simp only [Bool.or_eq_false_iff, decide_eq_false_iff_not, Nat.not_lt] at h
  refine ⟨?_, h.2⟩
  intro i hi h30
  have h1 := h.1
  unfold bigD at h1
  rw [List.any_eq_false] at h1
  have := h1 L[i] (by rw [List.mem_take_iff_getElem]; exact ⟨i, by omega, rfl⟩)
  simpa using this

theorem anyT_succ {L : List Oq} {k : Nat} (h : k < L.length) (p : Oq → Bool) : (L.take (k + 1)).any p = ((L.take k).any p || p L[k]) := by
  rw [List.take_succ_eq_append_getElem h, List.any_append]; simp
theorem anyT_true {L : List Oq} {k n : Nat} (h : k < L.length) (hk : k < n) (p : Oq → Bool) (hp : p L[k] = true) : (L.take n).any p = true := by
  rw [List.any_eq_true]; exact ⟨L[k], by rw [List.mem_take_iff_getElem]; exact ⟨k, by omega, rfl⟩, hp⟩

set_option maxHeartbeats 4000000 in
theorem big_some (f : Fl) (hfa : f.a.size ≤ maxLen) (hfb : f.b.size ≤ maxLen) (b o cap : Nat) (L : List Oq) (hL : ∀ x ∈ L, x.data.size ≤ maxLen) (hl : L.length ≤ maxLen) (mask : ByteArray) (hm : mask.size ≤ maxLen) (w : World) (hA : OpsA w b o L) :
    Calls Try.prog 6 #[flV f, .slice (some ⟨b, o, none⟩) L.length cap, .string mask] w fun e w' => e = .returned (.bool (bigB f L mask)) ∧ Below w.heap.size w w' := by
  unfold maxLen at *
  obtain ⟨R, hR⟩ : ∃ R, R = bigB f L mask := ⟨_, rfl⟩
  rw [← hR]
  have HR := Lib.hid hR
  clear hR
  have kF := Blk.new w 25 (flC f)
  have B0 : Below w.heap.size w (w.alloc (.cells (flC f) 25)) := (Below.refl _ w).alloc (Nat.le_refl _) _
  have hA1 : OpsA (w.alloc (.cells (flC f) 25)) b o L := by
    intro i hi
    exact hA.below B0 (World.block_lt_of_cell? w ⟨b, _, none⟩ (hA i hi).1) i hi
  go_enter Try.func6, Try.ntmps6
  go_wp2_with fail
  generalize World.alloc w _ = W at *
  clear hA
  have f0 := kF.cell 0
  have f1 := kF.cell 1
  simp at f0 f1
  go_loop [7] (fun i => ∃ k : Nat, k ≤ L.length ∧ k ≤ 30 ∧ i = .int .i64 k ∧ ((L.take k).any fun o => decide (300 < o.data.size)) = false) (fun i => L.length - (intOf i).toNat)
  case atStart => exact ⟨0, by omega, by omega, rfl, rfl⟩
  case round =>
    obtain ⟨k, hk, hk30, rfl, hn⟩ := hrel
    by_cases hlt : k < L.length
    · by_cases hlt2 : k < 30
      · obtain ⟨c0, c1, c2, c3⟩ := hA1 k hlt
        have had : (⟨b, o, none⟩ : Addr).add (k * 4) = ⟨b, o + k * 4, none⟩ := by rw [addr_add]
        have hd : decide ((k : Int) < 30) = true := by simp; omega
        have hs := anyT_succ hlt fun o => decide (300 < o.data.size)
        have hT := anyT_true hlt hlt2 fun o => decide (300 < o.data.size)
        rw [hn, Bool.false_or] at hs
        have HS := Lib.hid hs
        have HT := Lib.hid hT
        have hsz := hL L[k] (List.getElem_mem hlt)
        clear hs hn hT
        generalize L[k] = x at *
        clear hA1 hL
        by_cases hb : 300 < x.data.size
        · have HB := Lib.hid (HT.out (by simpa using hb))
          have hd2 : decide (300 < (x.data.size : Int)) = true := by simp; omega
          go_wp2
          go_ret
          exact ⟨ret_bool (by rw [HR.out]; unfold bigB bigD; rw [HB.out, Bool.true_or]), B0⟩
        · have hd2 : decide (300 < (x.data.size : Int)) = false := by simp; omega
          go_wp2
          go_round
          case rel => exact ⟨k + 1, by omega, by omega, by go_num, by rw [HS.out]; simpa using hb⟩
          case measure => simp [intOf]; omega
      · obtain rfl : k = 30 := by omega
        have HN := Lib.hid (show bigB f L mask = true by unfold bigB; simp; omega)
        clear hn hA1 hL
        have h20 : 20 < L.length := by omega
        by_cases h1 : 500 < f.a.size
        · go_wp2
          go_ret
          exact ⟨ret_bool (by rw [HR.out, HN.out]), B0⟩
        · by_cases h2 : 500 < f.b.size
          · go_wp2
            go_ret
            exact ⟨ret_bool (by rw [HR.out, HN.out]), B0⟩
          · go_wp2
            go_ret
            exact ⟨ret_bool (by rw [HR.out, HN.out]), B0⟩
    · obtain rfl : k = L.length := by omega
      have hD : bigD L = false := by unfold bigD; rw [List.take_of_length_le hk30, ← hn, List.take_length]
      clear hn hA1 hL
      by_cases h1 : 500 < f.a.size
      · have HN := Lib.hid (show bigB f L mask = true by unfold bigB; simp [h1])
        clear hD
        go_wp2
        go_ret
        exact ⟨ret_bool (by rw [HR.out, HN.out]), B0⟩
      · by_cases h2 : 500 < f.b.size
        · have HN := Lib.hid (show bigB f L mask = true by unfold bigB; simp [h2])
          clear hD
          go_wp2
          go_ret
          exact ⟨ret_bool (by rw [HR.out, HN.out]), B0⟩
        · by_cases h3 : 20 < L.length
          · have HN := Lib.hid (show bigB f L mask = true by unfold bigB; simp [h3])
            clear hD
            go_wp2
            go_ret
            exact ⟨ret_bool (by rw [HR.out, HN.out]), B0⟩
          · by_cases h4 : 600 < mask.size
            · have HN := Lib.hid (show bigB f L mask = true by unfold bigB; simp [h4])
              clear hD
              go_wp2
              go_ret
              exact ⟨ret_bool (by rw [HR.out, HN.out]; simp; omega), B0⟩
            · have HN := Lib.hid (show bigB f L mask = false by unfold bigB; simp [hD, h1, h2, h3, h4])
              clear hD
              go_wp2
              go_ret
              exact ⟨ret_bool (by rw [HR.out, HN.out]; simp; omega), B0⟩
end Go.Proofs.Ythagnnaemcknfaa
