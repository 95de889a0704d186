/- power.Play: its contract. -/
import Derived.Test.YthagnnaemcknfaaPlay
namespace Go.Proofs.Ythagnnaemcknfaa
open Go.RowKit
set_option linter.unusedVariables false
set_option linter.unusedSimpArgs false

set_option maxHeartbeats 2000000 in
theorem Play_some (f : Fl) (hf : f.ok) (b o cap : Nat) (L : List Oq) (hL : ∀ x ∈ L, x.ok) (hl : L.length ≤ 100) (cut : Int) (mask : ByteArray) (hm : mask.size ≤ 1000) (w : World) (hA : OpsA w b o L) :
    Calls Try.prog 11 #[flV f, .slice (some ⟨b, o, none⟩) L.length cap, .int .i64 cut, .string mask] w fun e w' =>
      e = .returned (.tuple #[flV (playK cut mask f L 0).f, .int .i64 (playK cut mask f L 0).n, .int .i64 (playK cut mask f L 0).e]) ∧ Below w.heap.size w w' := by
  obtain ⟨R, hR⟩ : ∃ R, R = playK cut mask f L 0 := ⟨_, rfl⟩
  rw [← hR]
  have HRR := Lib.hid hR
  clear hR
  have k0 := (Blk.new w 25 (flC f)).alloc (.cells zC 25)
  have z0 := Blk.new (w.alloc (.cells (flC f) 25)) 25 zC
  rw [World.size_alloc] at z0
  have B0 : Below w.heap.size w ((w.alloc (.cells (flC f) 25)).alloc (.cells zC 25)) := ((Below.refl _ w).alloc (Nat.le_refl _) _).alloc (by simp) _
  have HR := Lib.hid (show PlayR f L cut mask w 0 0 f ((w.alloc (.cells (flC f) 25)).alloc (.cells zC 25)) from ⟨Nat.zero_le _, hf, rfl, k0, z0, B0, .inl rfl⟩)
  clear k0 z0 B0
  obtain ⟨body, hb⟩ : ∃ body, Try.f11.body = some body := ⟨_, rfl⟩
  obtain ⟨c, hc⟩ : ∃ c, scopeOf body = some c := by obtain rfl := Option.some.inj (show some body = some _ from hb.symm); exact ⟨_, rfl⟩
  have hpass := Play_pass f b o cap L hL hl cut mask hm w hA R HRR body hb c hc
  obtain rfl := Option.some.inj (show some body = some _ from hb.symm)
  obtain rfl := Option.some.inj (show some c = some _ from hc.symm)
  clear hb hc hA hL
  have HPS := Lib.hid hpass
  clear hpass
  go_enter Try.func11, Try.ntmps11
  go_wp2_with fail
  generalize World.alloc (World.alloc w _) _ = W0 at *
  refine wp_scope_marks (PlayJ f b o cap L cut mask w) (PlayM L.length) ?_ (fun l a w' hJ => by obtain ⟨r, h1, h2⟩ := HPS.out l a w' hJ; exact ⟨_, h1, wp_seq (wp_skip h2)⟩)
  go_wp2_with fail
  go_step3
  rename_i hK
  obtain ⟨rest, hf2, hr⟩ := HPS.out 0 ⟨#[flV f, .slice (some ⟨b, o, none⟩) L.length cap, .int .i64 cut, .string mask, .pointer (some ⟨w.heap.size, 0, none⟩), undef, undef, undef, .pointer (some ⟨w.heap.size + 1, 0, none⟩), .int .i64 0, .int .i64 0, .int .i64 0, .int .i64 ((0 : Nat) : Int), undef, undef, undef, undef, undef, undef, undef, undef, undef, undef, undef, undef, undef, undef, undef, undef, undef, undef, undef, undef, undef, undef, undef, undef, undef, undef, undef, undef, undef, undef, undef, undef, undef, undef, undef, undef, undef, undef], []⟩ W0 ⟨0, f, _, _, _, _, _, _, _, _, _, _, _, _, _, _, _, _, _, _, _, _, _, _, _, _, _, _, _, _, _, _, _, _, _, _, _, _, _, _, _, HR.out, rfl⟩
  obtain rfl : _ = rest := (Code.seq.inj (Option.some.inj hf2)).2
  refine hK _ _ ?_
  refine Code.wp_mono ?_ hr
  intro e a1 w1 hq
  match e, hq with
  | .normal, hq => exact hq
  | .exit id, hq => exact hq
  | .goto l', hq => exact hq.1
  | .ret, hq => exact hq
  | .panic ch, hq => exact hq
  | .outgrown, hq => exact hq

theorem Play_nil (f : Fl) (cut : Int) (mask : ByteArray) (w : World) :
    Calls Try.prog 11 #[flV f, .slice none 0 0, .int .i64 cut, .string mask] w fun e w' =>
      e = .returned (.tuple #[flV f, .int .i64 0, .int .i64 0]) ∧ Below w.heap.size w w' := by
  have k0 := (Blk.new w 25 (flC f)).alloc (.cells zC 25)
  have z0 := Blk.new (w.alloc (.cells (flC f) 25)) 25 zC
  rw [World.size_alloc] at z0
  have B0 : Below w.heap.size w ((w.alloc (.cells (flC f) 25)).alloc (.cells zC 25)) := ((Below.refl _ w).alloc (Nat.le_refl _) _).alloc (by simp) _
  go_enter Try.func11, Try.ntmps11
  go_wp2_with fail
  generalize World.alloc (World.alloc w _) _ = W0 at *
  go_step3
  go_wp2_with fail
  go_step3
  have s_0 := k0.cell 0
  have s_1 := k0.cell 1
  have s_2 := k0.cell 2
  have s_3 := k0.cell 3
  have s_4 := k0.cell 4
  simp at s_0 s_1 s_2 s_3 s_4
  have r_0 := z0.cell 0
  have r_1 := z0.cell 1
  have r_2 := z0.cell 2
  have r_3 := z0.cell 3
  have r_4 := z0.cell 4
  simp at r_0 r_1 r_2 r_3 r_4
  have t_0 := z0.frozen 0
  have t_1 := z0.frozen 1
  have t_2 := z0.frozen 2
  have t_3 := z0.frozen 3
  have t_4 := z0.frozen 4
  go_wp2
  (try rw [Exit.noGoto_ret])
  obtain ⟨g7, B7⟩ := five_stores (v0 := .string f.a) (v1 := .string f.b) (v2 := .int .i64 f.x) (v3 := .int .i64 f.y) (v4 := .int .i64 f.l) z0 B0 (by omega)
  have q_0 := g7.cell 0
  have q_1 := g7.cell 1
  have q_2 := g7.cell 2
  have q_3 := g7.cell 3
  have q_4 := g7.cell 4
  simp at q_0 q_1 q_2 q_3 q_4
  generalize World.setCell (World.setCell (World.setCell (World.setCell (World.setCell _ _ _) _ _) _ _) _ _) _ _ = W7 at *
  exact bodyPost_ret (v := .tuple #[.agg #[.string f.a, .string f.b, .int .i64 f.x, .int .i64 f.y, .int .i64 f.l], .int .i64 0, .int .i64 0]) (by simp [results, Try.results11, go_sem, q_0, q_1, q_2, q_3, q_4]) rfl ⟨rfl, B7⟩

theorem Play_any (f : Fl) (hf : f.ok) (v : Value) (L : List Oq) (hL : ∀ x ∈ L, x.ok) (hl : L.length ≤ 100) (cut : Int) (mask : ByteArray) (hm : mask.size ≤ 1000) (w : World) (hA : OpsV w v L) :
    Calls Try.prog 11 #[flV f, v, .int .i64 cut, .string mask] w fun e w' =>
      e = .returned (.tuple #[flV (playK cut mask f L 0).f, .int .i64 (playK cut mask f L 0).n, .int .i64 (playK cut mask f L 0).e]) ∧ Below w.heap.size w w' := by
  rcases hA with ⟨rfl, rfl⟩ | ⟨b, o, cap, rfl, ha⟩
  · exact Play_nil f cut mask w
  · exact Play_some f hf b o cap L hL hl cut mask hm w ha
end Go.Proofs.Ythagnnaemcknfaa
