/- power.Do. -/
import Derived.Test.YthagnnaemcknfaaFlashP
import Derived.Test.YthagnnaemcknfaaFlashN
namespace Go.Proofs.Ythagnnaemcknfaa
open Go.RowKit
set_option linter.unusedVariables false
set_option linter.unusedSimpArgs false

/-- an op -/
structure Oq where
  kind : Int
  bank : Int
  at_ : Int
  data : ByteArray
structure Oq.ok (o : Oq) : Prop where
  hk : (Lit.int .i64 o.kind).wf = true
  hb : (Lit.int .i64 o.bank).wf = true
  ha : (Lit.int .i64 o.at_).wf = true
  hd : o.data.size ≤ maxLen
abbrev oqV (o : Oq) : Value := .agg #[.int .i64 o.kind, .int .i64 o.bank, .int .i64 o.at_, .string o.data]
def doE (f : Fl) (o : Oq) : Int := if o.kind = 1 then pgE f o.bank o.at_ o.data else if o.kind = 2 then erE f o.bank else 1
def doF (f : Fl) (o : Oq) : Fl := if o.kind = 1 then pgF f o.bank o.at_ o.data else if o.kind = 2 then erF f o.bank else f


set_option maxHeartbeats 1000000 in
theorem Do_any (f : Fl) (hf : f.ok) (o : Oq) (ho : o.ok) (w : World) :
    Calls Try.prog 10 #[flV f, oqV o] w fun e w' => e = .returned (.tuple #[flV (doF f o), .int .i64 (doE f o)]) ∧ Below w.heap.size w w' := by
  have hP := Program_any f hf o.bank o.at_ o.data ho.hb ho.ha ho.hd
  have hE := Erase_any f hf o.bank ho.hb
  have K0 := Blk.new ((w.alloc (.cells #[.string f.a, .string f.b, .int .i64 f.x, .int .i64 f.y, .int .i64 f.l] 25)).alloc (.cells #[.int .i64 o.kind, .int .i64 o.bank, .int .i64 o.at_, .string o.data] 27)) 25 #[.string ⟨#[]⟩, .string ⟨#[]⟩, .int .i64 0, .int .i64 0, .int .i64 0]
  rw [World.size_alloc, World.size_alloc] at K0
  have B0 : Below w.heap.size w (((w.alloc (.cells #[.string f.a, .string f.b, .int .i64 f.x, .int .i64 f.y, .int .i64 f.l] 25)).alloc (.cells #[.int .i64 o.kind, .int .i64 o.bank, .int .i64 o.at_, .string o.data] 27)).alloc (.cells #[.string ⟨#[]⟩, .string ⟨#[]⟩, .int .i64 0, .int .i64 0, .int .i64 0] 25)) :=
    (((Below.refl _ w).alloc (Nat.le_refl _) _).alloc (by simp) _).alloc (by simp; omega) _
  have HB0 := Lib.hid B0
  have HK0 := Lib.hid K0
  clear B0 K0
  obtain ⟨K, bk, at_, d⟩ := o
  simp only at *
  by_cases h1 : K = 1
  · have eE : doE f ⟨K, bk, at_, d⟩ = pgE f bk at_ d := if_pos h1
    have eF : doF f ⟨K, bk, at_, d⟩ = pgF f bk at_ d := if_pos h1
    rw [eE, eF]
    subst h1
    clear eE eF hE
    generalize pgE f bk at_ d = E at *
    generalize pgF f bk at_ d = R at *
    go_enter Try.func10, Try.ntmps10
    go_wp2_with fail
    generalize World.alloc (World.alloc (World.alloc w _) _) _ = W0 at *
    refine (hP _).mono ?_
    rintro e w1 ⟨rfl, b1⟩
    have k1 := Blk.below HK0.out b1 HK0.out.lt
    have B1 := bthen HB0.out b1
    have r0 := k1.cell 0
    have r1 := k1.cell 1
    have r2 := k1.cell 2
    have r3 := k1.cell 3
    have r4 := k1.cell 4
    have f0 := k1.frozen 0
    have f1 := k1.frozen 1
    have f2 := k1.frozen 2
    have f3 := k1.frozen 3
    have f4 := k1.frozen 4
    simp at r0 r1 r2 r3 r4
    clear b1 HB0 HK0
    go_wp2
    obtain ⟨g0, B2⟩ := five_stores (v0 := .string R.a) (v1 := .string R.b) (v2 := .int .i64 R.x) (v3 := .int .i64 R.y) (v4 := .int .i64 R.l) k1 B1 (by omega)
    clear r0 r1 r2 r3 r4 f0 f1 f2 f3 f4 k1
    generalize World.setCell (World.setCell (World.setCell (World.setCell (World.setCell w1 _ _) _ _) _ _) _ _) _ _ = W6 at *
    have r0 := g0.cell 0
    have r1 := g0.cell 1
    have r2 := g0.cell 2
    have r3 := g0.cell 3
    have r4 := g0.cell 4
    simp at r0 r1 r2 r3 r4
    exact bodyPost_ret (v := .tuple #[flV R, .int .i64 E]) (by simp [results, Try.results10, go_sem, r0, r1, r2, r3, r4]) rfl ⟨rfl, B2⟩
  · by_cases h2 : K = 2
    · have eE : doE f ⟨K, bk, at_, d⟩ = erE f bk := by unfold doE; rw [if_neg h1, if_pos h2]
      have eF : doF f ⟨K, bk, at_, d⟩ = erF f bk := by unfold doF; rw [if_neg h1, if_pos h2]
      rw [eE, eF]
      subst h2
      clear eE eF hP h1
      generalize erE f bk = E at *
      generalize erF f bk = R at *
      go_enter Try.func10, Try.ntmps10
      go_wp2_with fail
      generalize World.alloc (World.alloc (World.alloc w _) _) _ = W0 at *
      refine (hE _).mono ?_
      rintro e w1 ⟨rfl, b1⟩
      have k1 := Blk.below HK0.out b1 HK0.out.lt
      have B1 := bthen HB0.out b1
      have r0 := k1.cell 0
      have r1 := k1.cell 1
      have r2 := k1.cell 2
      have r3 := k1.cell 3
      have r4 := k1.cell 4
      have f0 := k1.frozen 0
      have f1 := k1.frozen 1
      have f2 := k1.frozen 2
      have f3 := k1.frozen 3
      have f4 := k1.frozen 4
      simp at r0 r1 r2 r3 r4
      clear b1 HB0 HK0
      go_wp2
      obtain ⟨g0, B2⟩ := five_stores (v0 := .string R.a) (v1 := .string R.b) (v2 := .int .i64 R.x) (v3 := .int .i64 R.y) (v4 := .int .i64 R.l) k1 B1 (by omega)
      clear r0 r1 r2 r3 r4 f0 f1 f2 f3 f4 k1
      generalize World.setCell (World.setCell (World.setCell (World.setCell (World.setCell w1 _ _) _ _) _ _) _ _) _ _ = W6 at *
      have r0 := g0.cell 0
      have r1 := g0.cell 1
      have r2 := g0.cell 2
      have r3 := g0.cell 3
      have r4 := g0.cell 4
      simp at r0 r1 r2 r3 r4
      exact bodyPost_ret (v := .tuple #[flV R, .int .i64 E]) (by simp [results, Try.results10, go_sem, r0, r1, r2, r3, r4]) rfl ⟨rfl, B2⟩
    · have eE : doE f ⟨K, bk, at_, d⟩ = 1 := by unfold doE; rw [if_neg h1, if_neg h2]
      have eF : doF f ⟨K, bk, at_, d⟩ = f := by unfold doF; rw [if_neg h1, if_neg h2]
      rw [eE, eF]
      have n1 : (K == 1) = false := by simpa using h1
      have n2 : (K == 2) = false := by simpa using h2
      clear eE eF hP hE h1 h2
      go_enter Try.func10, Try.ntmps10
      go_wp2
      exact bodyPost_ret (v := .tuple #[flV f, .int .i64 1]) (by simp [results, Try.results10, go_sem]) rfl ⟨rfl, ((((Below.refl _ w).alloc (Nat.le_refl _) _).alloc (by simp) _).alloc (by simp; omega) _)⟩
end Go.Proofs.Ythagnnaemcknfaa
