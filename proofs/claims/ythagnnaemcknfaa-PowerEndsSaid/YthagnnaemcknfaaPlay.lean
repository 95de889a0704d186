/- power.Play: what it computes. -/
import Derived.Test.YthagnnaemcknfaaTearA
import Derived.Test.YthagnnaemcknfaaMarks
import Derived.Test.YthagnnaemcknfaaCalmHead
namespace Go.Proofs.Ythagnnaemcknfaa
open Go.RowKit
set_option linter.unusedVariables false
set_option linter.unusedSimpArgs false

/-- ops in memory, at address ⟨b, o, none⟩ -/
def OpsA (w : World) (b o : Nat) (L : List Oq) : Prop := ∀ (i : Nat) (h : i < L.length),
  w.cell? ⟨b, o + i * 4, none⟩ = some (.int .i64 L[i].kind) ∧ w.cell? ⟨b, o + i * 4 + 1, none⟩ = some (.int .i64 L[i].bank) ∧ w.cell? ⟨b, o + i * 4 + 2, none⟩ = some (.int .i64 L[i].at_) ∧ w.cell? ⟨b, o + i * 4 + 3, none⟩ = some (.string L[i].data)
/-- a slice value is these ops -/
def OpsV (w : World) (v : Value) (L : List Oq) : Prop :=
  (v = .slice none 0 0 ∧ L = []) ∨ ∃ b o cap, v = .slice (some ⟨b, o, none⟩) L.length cap ∧ OpsA w b o L

theorem addr_add (b o n : Nat) : (⟨b, o, none⟩ : Addr).add n = ⟨b, o + n, none⟩ := by unfold Addr.add; split <;> simp_all

structure Pl where
  f : Fl
  n : Int
  e : Int
/-- ops from number i on -/
def playK (cut : Int) (mask : ByteArray) : Fl → List Oq → Nat → Pl
  | f, [], i => ⟨f, i, 0⟩
  | f, o :: L, i => if (i : Int) = cut then ⟨tearF f o mask, i, doE f o⟩ else if doE f o = 0 then playK cut mask (doF f o) L (i + 1) else ⟨f, i, doE f o⟩
theorem playK_nil (cut : Int) (mask : ByteArray) (f : Fl) (i : Nat) : playK cut mask f [] i = ⟨f, i, 0⟩ := rfl
theorem playK_cut {cut : Int} {mask : ByteArray} {f : Fl} {o : Oq} {L : List Oq} {i : Nat} (h : (i : Int) = cut) : playK cut mask f (o :: L) i = ⟨tearF f o mask, i, doE f o⟩ := if_pos h
theorem playK_on {cut : Int} {mask : ByteArray} {f : Fl} {o : Oq} {L : List Oq} {i : Nat} (h : ¬ (i : Int) = cut) (h2 : doE f o = 0) : playK cut mask f (o :: L) i = playK cut mask (doF f o) L (i + 1) := by
  rw [playK, if_neg h, if_pos h2]
theorem playK_err {cut : Int} {mask : ByteArray} {f : Fl} {o : Oq} {L : List Oq} {i : Nat} (h : ¬ (i : Int) = cut) (h2 : ¬ doE f o = 0) : playK cut mask f (o :: L) i = ⟨f, i, doE f o⟩ := by
  rw [playK, if_neg h, if_neg h2]
theorem doF_ok {f : Fl} (hf : f.ok) (o : Oq) : (doF f o).ok := by
  unfold doF; split
  · exact pgF_ok hf _ _ _
  · split
    · exact erF_ok hf _
    · exact hf
theorem drop_cons {L : List Oq} {k : Nat} (h : k < L.length) : L.drop k = L[k] :: L.drop (k + 1) := List.drop_eq_getElem_cons h

theorem OpsA.below {w w' : World} {b o B : Nat} {L : List Oq} (h : OpsA w b o L) (hb : Below B w w') (hB : b < B) : OpsA w' b o L := by
  intro i hi
  obtain ⟨h0, h1, h2, h3⟩ := h i hi
  exact ⟨(hb.cell (p := ⟨b, _, none⟩) hB).trans h0, (hb.cell (p := ⟨b, _, none⟩) hB).trans h1, (hb.cell (p := ⟨b, _, none⟩) hB).trans h2, (hb.cell (p := ⟨b, _, none⟩) hB).trans h3⟩
theorem OpsV.below {w w' : World} {v : Value} {L : List Oq} (h : OpsV w v L) (hb : Below w.heap.size w w') : OpsV w' v L := by
  rcases h with h | ⟨b, o, cap, hv, ha⟩
  · exact .inl h
  · refine .inr ⟨b, o, cap, hv, ?_⟩
    intro i hi
    have hlt : b < w.heap.size := World.block_lt_of_cell? w ⟨b, _, none⟩ (ha i hi).1
    exact ha.below hb hlt i hi

abbrev flC (g : Fl) : Array Value := #[.string g.a, .string g.b, .int .i64 g.x, .int .i64 g.y, .int .i64 g.l]
abbrev zC : Array Value := #[.string ⟨#[]⟩, .string ⟨#[]⟩, .int .i64 0, .int .i64 0, .int .i64 0]

/-- what holds at a label of Play: k ops are done, the flash is g -/
def PlayR (f : Fl) (L : List Oq) (cut : Int) (mask : ByteArray) (w : World) (l k : Nat) (g : Fl) (w' : World) : Prop :=
  k ≤ L.length ∧ g.ok ∧ playK cut mask f L 0 = playK cut mask g (L.drop k) k ∧ Blk w' w.heap.size 25 (flC g) ∧ Blk w' (w.heap.size + 1) 25 zC ∧ Below w.heap.size w w' ∧ (l = 0 ∨ l = 1 ∧ (k : Int) = cut ∧ k < L.length)
def PlayJ (f : Fl) (b o cap : Nat) (L : List Oq) (cut : Int) (mask : ByteArray) (w : World) (l : Nat) (a' : Act) (w' : World) : Prop :=
  ∃ (k : Nat) (g : Fl) (u11 u13 u14 u15 u16 u17 u18 u19 u20 u21 u22 u23 u24 u25 u26 u27 u28 u29 u30 u31 u32 u33 u34 u35 u36 u37 u38 u39 u40 u41 u42 u43 u44 u45 u46 u47 u48 u49 u50 : Value), PlayR f L cut mask w l k g w' ∧ a' = ⟨#[flV f, .slice (some ⟨b, o, none⟩) L.length cap, .int .i64 cut, .string mask, .pointer (some ⟨w.heap.size, 0, none⟩), undef, undef, undef, .pointer (some ⟨w.heap.size + 1, 0, none⟩), .int .i64 0, .int .i64 0, u11, .int .i64 (k : Int), u13, u14, u15, u16, u17, u18, u19, u20, u21, u22, u23, u24, u25, u26, u27, u28, u29, u30, u31, u32, u33, u34, u35, u36, u37, u38, u39, u40, u41, u42, u43, u44, u45, u46, u47, u48, u49, u50], []⟩
def PlayM (n : Nat) (l : Nat) (a' : Act) (_ : World) : Nat := 2 * (n - (intOf (a'.tmps.getD 12 undef)).toNat) + (1 - l)

/-- the scope of a body -/
def scopeOf : Code → Option Code
  | .scope c => some c
  | .seq a b => match scopeOf a with
    | some c => some c
    | none => scopeOf b
  | _ => none

set_option maxHeartbeats 4000000 in
theorem Play_pass (f : Fl) (b o cap : Nat) (L : List Oq) (hL : ∀ x ∈ L, x.ok) (hl : L.length ≤ 100) (cut : Int) (mask : ByteArray) (hm : mask.size ≤ 1000) (w : World) (hA : OpsA w b o L) (R : Pl) (HRR : Hid (R = playK cut mask f L 0))
    (body : Code) (hb : Try.f11.body = some body) (c : Code) (hc : scopeOf body = some c) :
    ∀ l a' w', PlayJ f b o cap L cut mask w l a' w' → ∃ rest, findLabel c l = some (Code.skip.seq rest) ∧ rest.wp Try.prog (marks (fun l' a1 w1 => PlayJ f b o cap L cut mask w l' a1 w1 ∧ PlayM L.length l' a1 w1 < PlayM L.length l a' w')
      (bodyPost Try.prog Try.f11 fun e w' => e = .returned (.tuple #[flV R.f, .int .i64 R.n, .int .i64 R.e]) ∧ Below w.heap.size w w')) a' w' := by
  obtain rfl := Option.some.inj (show some body = some _ from hb.symm)
  obtain rfl := Option.some.inj (show some c = some _ from hc.symm)
  intro l a' w' hJ
  unfold PlayJ at hJ
  obtain ⟨k, hJ⟩ := hJ
  obtain ⟨g, hJ⟩ := hJ
  obtain ⟨u11, hJ⟩ := hJ
  obtain ⟨u13, hJ⟩ := hJ
  obtain ⟨u14, hJ⟩ := hJ
  obtain ⟨u15, hJ⟩ := hJ
  obtain ⟨u16, hJ⟩ := hJ
  obtain ⟨u17, hJ⟩ := hJ
  obtain ⟨u18, hJ⟩ := hJ
  obtain ⟨u19, hJ⟩ := hJ
  obtain ⟨u20, hJ⟩ := hJ
  obtain ⟨u21, hJ⟩ := hJ
  obtain ⟨u22, hJ⟩ := hJ
  obtain ⟨u23, hJ⟩ := hJ
  obtain ⟨u24, hJ⟩ := hJ
  obtain ⟨u25, hJ⟩ := hJ
  obtain ⟨u26, hJ⟩ := hJ
  obtain ⟨u27, hJ⟩ := hJ
  obtain ⟨u28, hJ⟩ := hJ
  obtain ⟨u29, hJ⟩ := hJ
  obtain ⟨u30, hJ⟩ := hJ
  obtain ⟨u31, hJ⟩ := hJ
  obtain ⟨u32, hJ⟩ := hJ
  obtain ⟨u33, hJ⟩ := hJ
  obtain ⟨u34, hJ⟩ := hJ
  obtain ⟨u35, hJ⟩ := hJ
  obtain ⟨u36, hJ⟩ := hJ
  obtain ⟨u37, hJ⟩ := hJ
  obtain ⟨u38, hJ⟩ := hJ
  obtain ⟨u39, hJ⟩ := hJ
  obtain ⟨u40, hJ⟩ := hJ
  obtain ⟨u41, hJ⟩ := hJ
  obtain ⟨u42, hJ⟩ := hJ
  obtain ⟨u43, hJ⟩ := hJ
  obtain ⟨u44, hJ⟩ := hJ
  obtain ⟨u45, hJ⟩ := hJ
  obtain ⟨u46, hJ⟩ := hJ
  obtain ⟨u47, hJ⟩ := hJ
  obtain ⟨u48, hJ⟩ := hJ
  obtain ⟨u49, hJ⟩ := hJ
  obtain ⟨u50, hJ⟩ := hJ
  obtain ⟨⟨hk, hg, hP, kF, kZ, B, hl⟩, rfl⟩ := hJ
  rcases hl with rfl | ⟨rfl, hc, hkl⟩
  · refine ⟨_, rfl, ?_⟩
    by_cases hke : k = L.length
    · rw [hke, List.drop_length, playK_nil, ← hke] at hP
      have HP := Lib.hid (HRR.out.trans hP)
      clear hP HRR
      obtain ⟨n, hn⟩ : ∃ n, n = L.length := ⟨_, rfl⟩
      rw [← hn] at hke ⊢
      subst hke
      clear hn hL hA
      have s_0 := kF.cell 0
      have s_1 := kF.cell 1
      have s_2 := kF.cell 2
      have s_3 := kF.cell 3
      have s_4 := kF.cell 4
      simp at s_0 s_1 s_2 s_3 s_4
      have r_0 := kZ.cell 0
      have r_1 := kZ.cell 1
      have r_2 := kZ.cell 2
      have r_3 := kZ.cell 3
      have r_4 := kZ.cell 4
      simp at r_0 r_1 r_2 r_3 r_4
      have t_0 := kZ.frozen 0
      have t_1 := kZ.frozen 1
      have t_2 := kZ.frozen 2
      have t_3 := kZ.frozen 3
      have t_4 := kZ.frozen 4
      go_wp2
      (try rw [marks_ret])
      obtain ⟨g7, B7⟩ := five_stores (v0 := .string g.a) (v1 := .string g.b) (v2 := .int .i64 g.x) (v3 := .int .i64 g.y) (v4 := .int .i64 g.l) kZ B (by omega)
      have q_0 := g7.cell 0
      have q_1 := g7.cell 1
      have q_2 := g7.cell 2
      have q_3 := g7.cell 3
      have q_4 := g7.cell 4
      simp at q_0 q_1 q_2 q_3 q_4
      generalize World.setCell (World.setCell (World.setCell (World.setCell (World.setCell _ _ _) _ _) _ _) _ _) _ _ = W7 at *
      have hRe := HP.out
      subst hRe
      exact bodyPost_ret (v := .tuple #[.agg #[.string g.a, .string g.b, .int .i64 g.x, .int .i64 g.y, .int .i64 g.l], .int .i64 (k : Int), .int .i64 0]) (by simp [results, Try.results11, go_sem, q_0, q_1, q_2, q_3, q_4]) rfl ⟨rfl, B7⟩
    · have hkl : k < L.length := by omega
      have h1 : ((k : Int) == (L.length : Int)) = false := by simp; omega
      have h2 : decide (k = L.length) = false := by simp; omega
      have h2' : (k == L.length) = false := by simp; omega
      by_cases hc : (k : Int) = cut
      · have h3 : ((k : Int) == cut) = true := by simp [hc]
        have h4 : decide ((k : Int) = cut) = true := by simp [hc]
        have HC := Lib.hid hc
        have HPP := Lib.hid hP
        clear hc hP HRR hke
        go_wp2_with fail
        go_step3
        refine ⟨⟨k, g, u11, _, _, _, _, _, _, _, _, _, _, _, _, _, _, _, _, _, _, _, _, _, _, _, _, _, _, _, _, _, _, _, _, _, _, _, _, _, _, ⟨hk, hg, HPP.out, kF, kZ, B, .inr ⟨rfl, HC.out, hkl⟩⟩, rfl⟩, ?_⟩
        simp [PlayM, intOf]
      · have h3 : ((k : Int) == cut) = false := by simp [hc]
        have h4 : decide ((k : Int) = cut) = false := by simp [hc]
        have ho := hL L[k] (List.getElem_mem hkl)
        have hT := fun W => Do_any g hg L[k] ho W
        obtain ⟨c0, c1, c2, c3⟩ := hA k hkl
        have hlt : b < w.heap.size := World.block_lt_of_cell? w ⟨b, _, none⟩ c0
        rw [drop_cons hkl] at hP
        by_cases hE : doE g L[k] = 0
        · rw [playK_on hc hE] at hP
          have hgo := doF_ok hg L[k]
          have HP := Lib.hid (HRR.out.trans hP)
          rw [hE] at hT
          clear hP hc hke hE
          generalize doF g L[k] = T at *
          have HRQ := Lib.hid HRR.out
          have x0 : ∀ n : CalmW w'.heap.size w', n.val.cell? ⟨w.heap.size, 0, none⟩ = some (.string g.a) := fun n => ((kF.below n.below kF.lt).cell 0).trans (by simp)
          have x1 : ∀ n : CalmW w'.heap.size w', n.val.cell? ⟨w.heap.size, 1, none⟩ = some (.string g.b) := fun n => ((kF.below n.below kF.lt).cell 1).trans (by simp)
          have x2 : ∀ n : CalmW w'.heap.size w', n.val.cell? ⟨w.heap.size, 2, none⟩ = some (.int .i64 g.x) := fun n => ((kF.below n.below kF.lt).cell 2).trans (by simp)
          have x3 : ∀ n : CalmW w'.heap.size w', n.val.cell? ⟨w.heap.size, 3, none⟩ = some (.int .i64 g.y) := fun n => ((kF.below n.below kF.lt).cell 3).trans (by simp)
          have x4 : ∀ n : CalmW w'.heap.size w', n.val.cell? ⟨w.heap.size, 4, none⟩ = some (.int .i64 g.l) := fun n => ((kF.below n.below kF.lt).cell 4).trans (by simp)
          have hlw : ∀ n : CalmW w'.heap.size w', Below w.heap.size w n.val := fun n => B.trans (n.below.mono B.size)
          have y0 : ∀ n : CalmW w'.heap.size w', n.val.cell? ⟨b, o + k * 4, none⟩ = some (.int .i64 L[k].kind) := fun n => ((hlw n).cell (p := ⟨b, o + k * 4, none⟩) hlt).trans c0
          have y1 : ∀ n : CalmW w'.heap.size w', n.val.cell? ⟨b, o + k * 4 + 1, none⟩ = some (.int .i64 L[k].bank) := fun n => ((hlw n).cell (p := ⟨b, o + k * 4 + 1, none⟩) hlt).trans c1
          have y2 : ∀ n : CalmW w'.heap.size w', n.val.cell? ⟨b, o + k * 4 + 2, none⟩ = some (.int .i64 L[k].at_) := fun n => ((hlw n).cell (p := ⟨b, o + k * 4 + 2, none⟩) hlt).trans c2
          have y3 : ∀ n : CalmW w'.heap.size w', n.val.cell? ⟨b, o + k * 4 + 3, none⟩ = some (.string L[k].data) := fun n => ((hlw n).cell (p := ⟨b, o + k * 4 + 3, none⟩) hlt).trans c3
          have had : (⟨b, o, none⟩ : Addr).add (k * 4) = ⟨b, o + k * 4, none⟩ := by rw [addr_add]
          clear hlw c0 c1 c2 c3
          generalize L[k] = oo at *
          clear hL hA HRR
          go_wp2_with fail
          refine wp_region_calm_head w'.heap.size 7 4 #[true, true, true, true, true, true, true, false, false, false, false] (by kernel_rfl) (by kernel_rfl) rfl ?_
          simp only [List.take_succ_cons, List.take_zero]
          repeat (go_big_quiet_step ((with_reducible refine calm_of (Nat.le_refl _) (hT _))))
          refine wpQuiet_nil ?_
          intro W4 hw4
          obtain ⟨⟨W5, b4⟩, hw5⟩ := hw4
          obtain rfl : W4 = W5 := hw5
          refine wpAny_take (i := 7) rfl (by kernel_rfl) (by kernel_rfl) (by kernel_rfl) (fun _ _ _ h => h) (Or.inl ⟨by rfl, (by intro w; go_simp; with_reducible rfl)⟩) ?_
          refine wpAny_take (i := 8) rfl (by kernel_rfl) (by kernel_rfl) (by kernel_rfl) (fun _ _ _ h => h) (Or.inl ⟨by rfl, (by intro w; go_simp; with_reducible rfl)⟩) ?_
          have kF4 := kF.below b4 kF.lt
          have kZ4 := kZ.below b4 kZ.lt
          have B4 := B.trans (b4.mono B.size)
          clear b4 kF kZ B x0 x1 x2 x3 x4 y0 y1 y2 y3 had
          have s_0 := kF4.cell 0
          have s_1 := kF4.cell 1
          have s_2 := kF4.cell 2
          have s_3 := kF4.cell 3
          have s_4 := kF4.cell 4
          simp at s_0 s_1 s_2 s_3 s_4
          have t_0 := kF4.frozen 0
          have t_1 := kF4.frozen 1
          have t_2 := kF4.frozen 2
          have t_3 := kF4.frozen 3
          have t_4 := kF4.frozen 4
          refine wpAny_ready (rs := [9]) (by kernel_rfl) (by simp) ?_
          refine AllReady.cons rfl (fun K hK => ?_) AllReady.nil
          go_simp
          refine hK _ _ ?_
          clear hK K
          obtain ⟨g5, B5⟩ := five_stores (v0 := .string T.a) (v1 := .string T.b) (v2 := .int .i64 T.x) (v3 := .int .i64 T.y) (v4 := .int .i64 T.l) kF4 B4 (Nat.le_refl _)
          have kZ5 := ((((kZ4.other ⟨w.heap.size, 0, none⟩ (by show w.heap.size + 1 ≠ w.heap.size; omega) (.string T.a)).other ⟨w.heap.size, 1, none⟩ (by show w.heap.size + 1 ≠ w.heap.size; omega) (.string T.b)).other ⟨w.heap.size, 2, none⟩ (by show w.heap.size + 1 ≠ w.heap.size; omega) (.int .i64 T.x)).other ⟨w.heap.size, 3, none⟩ (by show w.heap.size + 1 ≠ w.heap.size; omega) (.int .i64 T.y)).other ⟨w.heap.size, 4, none⟩ (by show w.heap.size + 1 ≠ w.heap.size; omega) (.int .i64 T.l)
          generalize World.setCell (World.setCell (World.setCell (World.setCell (World.setCell W4 _ _) _ _) _ _) _ _) _ _ = W6 at *
          clear kF4 kZ4 B4 s_0 s_1 s_2 s_3 s_4 t_0 t_1 t_2 t_3 t_4
          refine wpAny_take (i := 10) rfl (by kernel_rfl) (by kernel_rfl) (by kernel_rfl) (fun _ _ _ h => h) (Or.inl ⟨by rfl, (by intro w; go_simp; with_reducible rfl)⟩) ?_
          refine wpAny_done (by kernel_rfl) ?_ _
          go_wp2_with fail
          go_step3
          refine ⟨⟨k + 1, T, _, _, _, _, _, _, _, _, _, _, _, _, _, _, _, _, _, _, _, _, _, _, _, _, _, _, _, _, _, _, _, _, _, _, _, _, _, _, _, ⟨hkl, hgo, HRQ.out.symm.trans HP.out, g5, kZ5, B5, .inl rfl⟩, rfl⟩, ?_⟩
          simp [PlayM, intOf]
          omega
        · have hbad := doF_bad hE
          rw [playK_err hc hE] at hP
          rw [hbad] at hT
          have HP := Lib.hid (HRR.out.trans hP)
          have hE2 : (doE g L[k] != 0) = true := by simpa using hE
          clear hP hc hke hE hbad
          generalize doE g L[k] = E at *
          obtain ⟨T, hTT⟩ : ∃ T, T = g := ⟨_, rfl⟩
          rw [← hTT] at HP
          replace hT : ∀ W, Calls Try.prog 10 #[flV g, oqV L[k]] W fun e w' => e = .returned (.tuple #[flV T, .int .i64 E]) ∧ Below W.heap.size W w' := by rw [hTT]; exact hT
          clear hTT
          have x0 : ∀ n : CalmW w'.heap.size w', n.val.cell? ⟨w.heap.size, 0, none⟩ = some (.string g.a) := fun n => ((kF.below n.below kF.lt).cell 0).trans (by simp)
          have x1 : ∀ n : CalmW w'.heap.size w', n.val.cell? ⟨w.heap.size, 1, none⟩ = some (.string g.b) := fun n => ((kF.below n.below kF.lt).cell 1).trans (by simp)
          have x2 : ∀ n : CalmW w'.heap.size w', n.val.cell? ⟨w.heap.size, 2, none⟩ = some (.int .i64 g.x) := fun n => ((kF.below n.below kF.lt).cell 2).trans (by simp)
          have x3 : ∀ n : CalmW w'.heap.size w', n.val.cell? ⟨w.heap.size, 3, none⟩ = some (.int .i64 g.y) := fun n => ((kF.below n.below kF.lt).cell 3).trans (by simp)
          have x4 : ∀ n : CalmW w'.heap.size w', n.val.cell? ⟨w.heap.size, 4, none⟩ = some (.int .i64 g.l) := fun n => ((kF.below n.below kF.lt).cell 4).trans (by simp)
          have hlw : ∀ n : CalmW w'.heap.size w', Below w.heap.size w n.val := fun n => B.trans (n.below.mono B.size)
          have y0 : ∀ n : CalmW w'.heap.size w', n.val.cell? ⟨b, o + k * 4, none⟩ = some (.int .i64 L[k].kind) := fun n => ((hlw n).cell (p := ⟨b, o + k * 4, none⟩) hlt).trans c0
          have y1 : ∀ n : CalmW w'.heap.size w', n.val.cell? ⟨b, o + k * 4 + 1, none⟩ = some (.int .i64 L[k].bank) := fun n => ((hlw n).cell (p := ⟨b, o + k * 4 + 1, none⟩) hlt).trans c1
          have y2 : ∀ n : CalmW w'.heap.size w', n.val.cell? ⟨b, o + k * 4 + 2, none⟩ = some (.int .i64 L[k].at_) := fun n => ((hlw n).cell (p := ⟨b, o + k * 4 + 2, none⟩) hlt).trans c2
          have y3 : ∀ n : CalmW w'.heap.size w', n.val.cell? ⟨b, o + k * 4 + 3, none⟩ = some (.string L[k].data) := fun n => ((hlw n).cell (p := ⟨b, o + k * 4 + 3, none⟩) hlt).trans c3
          have had : (⟨b, o, none⟩ : Addr).add (k * 4) = ⟨b, o + k * 4, none⟩ := by rw [addr_add]
          clear hlw c0 c1 c2 c3
          generalize L[k] = oo at *
          clear hL hA HRR
          go_wp2_with fail
          refine wp_region_calm_head w'.heap.size 7 4 #[true, true, true, true, true, true, true, false, false, false, false] (by kernel_rfl) (by kernel_rfl) rfl ?_
          simp only [List.take_succ_cons, List.take_zero]
          repeat (go_big_quiet_step ((with_reducible refine calm_of (Nat.le_refl _) (hT _))))
          refine wpQuiet_nil ?_
          intro W4 hw4
          obtain ⟨⟨W5, b4⟩, hw5⟩ := hw4
          obtain rfl : W4 = W5 := hw5
          refine wpAny_take (i := 7) rfl (by kernel_rfl) (by kernel_rfl) (by kernel_rfl) (fun _ _ _ h => h) (Or.inl ⟨by rfl, (by intro w; go_simp; with_reducible rfl)⟩) ?_
          refine wpAny_take (i := 8) rfl (by kernel_rfl) (by kernel_rfl) (by kernel_rfl) (fun _ _ _ h => h) (Or.inl ⟨by rfl, (by intro w; go_simp; with_reducible rfl)⟩) ?_
          have kF4 := kF.below b4 kF.lt
          have kZ4 := kZ.below b4 kZ.lt
          have B4 := B.trans (b4.mono B.size)
          clear b4 kF kZ B x0 x1 x2 x3 x4 y0 y1 y2 y3 had
          have s_0 := kF4.cell 0
          have s_1 := kF4.cell 1
          have s_2 := kF4.cell 2
          have s_3 := kF4.cell 3
          have s_4 := kF4.cell 4
          simp at s_0 s_1 s_2 s_3 s_4
          have t_0 := kF4.frozen 0
          have t_1 := kF4.frozen 1
          have t_2 := kF4.frozen 2
          have t_3 := kF4.frozen 3
          have t_4 := kF4.frozen 4
          refine wpAny_ready (rs := [9]) (by kernel_rfl) (by simp) ?_
          refine AllReady.cons rfl (fun K hK => ?_) AllReady.nil
          go_simp
          refine hK _ _ ?_
          clear hK K
          obtain ⟨g5, B5⟩ := five_stores (v0 := .string T.a) (v1 := .string T.b) (v2 := .int .i64 T.x) (v3 := .int .i64 T.y) (v4 := .int .i64 T.l) kF4 B4 (Nat.le_refl _)
          have kZ5 := ((((kZ4.other ⟨w.heap.size, 0, none⟩ (by show w.heap.size + 1 ≠ w.heap.size; omega) (.string T.a)).other ⟨w.heap.size, 1, none⟩ (by show w.heap.size + 1 ≠ w.heap.size; omega) (.string T.b)).other ⟨w.heap.size, 2, none⟩ (by show w.heap.size + 1 ≠ w.heap.size; omega) (.int .i64 T.x)).other ⟨w.heap.size, 3, none⟩ (by show w.heap.size + 1 ≠ w.heap.size; omega) (.int .i64 T.y)).other ⟨w.heap.size, 4, none⟩ (by show w.heap.size + 1 ≠ w.heap.size; omega) (.int .i64 T.l)
          generalize World.setCell (World.setCell (World.setCell (World.setCell (World.setCell W4 _ _) _ _) _ _) _ _) _ _ = W6 at *
          clear kF4 kZ4 B4 s_0 s_1 s_2 s_3 s_4 t_0 t_1 t_2 t_3 t_4
          refine wpAny_take (i := 10) rfl (by kernel_rfl) (by kernel_rfl) (by kernel_rfl) (fun _ _ _ h => h) (Or.inl ⟨by rfl, (by intro w; go_simp; with_reducible rfl)⟩) ?_
          refine wpAny_done (by kernel_rfl) ?_ _
          have s_0 := g5.cell 0
          have s_1 := g5.cell 1
          have s_2 := g5.cell 2
          have s_3 := g5.cell 3
          have s_4 := g5.cell 4
          simp at s_0 s_1 s_2 s_3 s_4
          have r_0 := kZ5.cell 0
          have r_1 := kZ5.cell 1
          have r_2 := kZ5.cell 2
          have r_3 := kZ5.cell 3
          have r_4 := kZ5.cell 4
          simp at r_0 r_1 r_2 r_3 r_4
          have t_0 := kZ5.frozen 0
          have t_1 := kZ5.frozen 1
          have t_2 := kZ5.frozen 2
          have t_3 := kZ5.frozen 3
          have t_4 := kZ5.frozen 4
          go_wp2
          (try rw [marks_ret])
          obtain ⟨g7, B7⟩ := five_stores (v0 := .string T.a) (v1 := .string T.b) (v2 := .int .i64 T.x) (v3 := .int .i64 T.y) (v4 := .int .i64 T.l) kZ5 B5 (by omega)
          have q_0 := g7.cell 0
          have q_1 := g7.cell 1
          have q_2 := g7.cell 2
          have q_3 := g7.cell 3
          have q_4 := g7.cell 4
          simp at q_0 q_1 q_2 q_3 q_4
          generalize World.setCell (World.setCell (World.setCell (World.setCell (World.setCell _ _ _) _ _) _ _) _ _) _ _ = W7 at *
          have hRe := HP.out
          subst hRe
          exact bodyPost_ret (v := .tuple #[.agg #[.string T.a, .string T.b, .int .i64 T.x, .int .i64 T.y, .int .i64 T.l], .int .i64 (k : Int), .int .i64 E]) (by simp [results, Try.results11, go_sem, q_0, q_1, q_2, q_3, q_4]) rfl ⟨rfl, B7⟩
  · refine ⟨_, rfl, ?_⟩
    have ho := hL L[k] (List.getElem_mem hkl)
    have hT := fun W => Tear_any g hg L[k] ho mask hm W
    obtain ⟨c0, c1, c2, c3⟩ := hA k hkl
    have hlt : b < w.heap.size := World.block_lt_of_cell? w ⟨b, _, none⟩ c0
    rw [drop_cons hkl, playK_cut hc] at hP
    have HP := Lib.hid (HRR.out.trans hP)
    clear hP hc
    generalize tearF g L[k] mask = T at *
    generalize doE g L[k] = E at *
    have x0 : ∀ n : CalmW w'.heap.size w', n.val.cell? ⟨w.heap.size, 0, none⟩ = some (.string g.a) := fun n => ((kF.below n.below kF.lt).cell 0).trans (by simp)
    have x1 : ∀ n : CalmW w'.heap.size w', n.val.cell? ⟨w.heap.size, 1, none⟩ = some (.string g.b) := fun n => ((kF.below n.below kF.lt).cell 1).trans (by simp)
    have x2 : ∀ n : CalmW w'.heap.size w', n.val.cell? ⟨w.heap.size, 2, none⟩ = some (.int .i64 g.x) := fun n => ((kF.below n.below kF.lt).cell 2).trans (by simp)
    have x3 : ∀ n : CalmW w'.heap.size w', n.val.cell? ⟨w.heap.size, 3, none⟩ = some (.int .i64 g.y) := fun n => ((kF.below n.below kF.lt).cell 3).trans (by simp)
    have x4 : ∀ n : CalmW w'.heap.size w', n.val.cell? ⟨w.heap.size, 4, none⟩ = some (.int .i64 g.l) := fun n => ((kF.below n.below kF.lt).cell 4).trans (by simp)
    have hlw : ∀ n : CalmW w'.heap.size w', Below w.heap.size w n.val := fun n => B.trans (n.below.mono B.size)
    have y0 : ∀ n : CalmW w'.heap.size w', n.val.cell? ⟨b, o + k * 4, none⟩ = some (.int .i64 L[k].kind) := fun n => ((hlw n).cell (p := ⟨b, o + k * 4, none⟩) hlt).trans c0
    have y1 : ∀ n : CalmW w'.heap.size w', n.val.cell? ⟨b, o + k * 4 + 1, none⟩ = some (.int .i64 L[k].bank) := fun n => ((hlw n).cell (p := ⟨b, o + k * 4 + 1, none⟩) hlt).trans c1
    have y2 : ∀ n : CalmW w'.heap.size w', n.val.cell? ⟨b, o + k * 4 + 2, none⟩ = some (.int .i64 L[k].at_) := fun n => ((hlw n).cell (p := ⟨b, o + k * 4 + 2, none⟩) hlt).trans c2
    have y3 : ∀ n : CalmW w'.heap.size w', n.val.cell? ⟨b, o + k * 4 + 3, none⟩ = some (.string L[k].data) := fun n => ((hlw n).cell (p := ⟨b, o + k * 4 + 3, none⟩) hlt).trans c3
    have had : (⟨b, o, none⟩ : Addr).add (k * 4) = ⟨b, o + k * 4, none⟩ := by rw [addr_add]
    clear hlw c0 c1 c2 c3
    generalize L[k] = oo at *
    clear hL hA HRR
    go_wp2_with fail
    refine wp_region_calm_head w'.heap.size 8 4 #[true, true, true, true, true, true, true, true, false, false, false, false] (by kernel_rfl) (by kernel_rfl) rfl ?_
    simp only [List.take_succ_cons, List.take_zero]
    repeat (go_big_quiet_step ((with_reducible refine calm_of (Nat.le_refl _) (hT _))))
    refine wpQuiet_nil ?_
    intro W4 hw4
    obtain ⟨⟨W5, b4⟩, hw5⟩ := hw4
    obtain rfl : W4 = W5 := hw5
    refine wpAny_take (i := 8) rfl (by kernel_rfl) (by kernel_rfl) (by kernel_rfl) (fun _ _ _ h => h) (Or.inl ⟨by rfl, (by intro w; go_simp; with_reducible rfl)⟩) ?_
    refine wpAny_take (i := 9) rfl (by kernel_rfl) (by kernel_rfl) (by kernel_rfl) (fun _ _ _ h => h) (Or.inl ⟨by rfl, (by intro w; go_simp; with_reducible rfl)⟩) ?_
    have kF4 := kF.below b4 kF.lt
    have kZ4 := kZ.below b4 kZ.lt
    have B4 := B.trans (b4.mono B.size)
    clear b4 kF kZ B x0 x1 x2 x3 x4 y0 y1 y2 y3 had
    have s_0 := kF4.cell 0
    have s_1 := kF4.cell 1
    have s_2 := kF4.cell 2
    have s_3 := kF4.cell 3
    have s_4 := kF4.cell 4
    simp at s_0 s_1 s_2 s_3 s_4
    have t_0 := kF4.frozen 0
    have t_1 := kF4.frozen 1
    have t_2 := kF4.frozen 2
    have t_3 := kF4.frozen 3
    have t_4 := kF4.frozen 4
    refine wpAny_ready (rs := [10]) (by kernel_rfl) (by simp) ?_
    refine AllReady.cons rfl (fun K hK => ?_) AllReady.nil
    go_simp
    refine hK _ _ ?_
    clear hK K
    obtain ⟨g5, B5⟩ := five_stores (v0 := .string T.a) (v1 := .string T.b) (v2 := .int .i64 T.x) (v3 := .int .i64 T.y) (v4 := .int .i64 T.l) kF4 B4 (Nat.le_refl _)
    have kZ5 := ((((kZ4.other ⟨w.heap.size, 0, none⟩ (by show w.heap.size + 1 ≠ w.heap.size; omega) (.string T.a)).other ⟨w.heap.size, 1, none⟩ (by show w.heap.size + 1 ≠ w.heap.size; omega) (.string T.b)).other ⟨w.heap.size, 2, none⟩ (by show w.heap.size + 1 ≠ w.heap.size; omega) (.int .i64 T.x)).other ⟨w.heap.size, 3, none⟩ (by show w.heap.size + 1 ≠ w.heap.size; omega) (.int .i64 T.y)).other ⟨w.heap.size, 4, none⟩ (by show w.heap.size + 1 ≠ w.heap.size; omega) (.int .i64 T.l)
    generalize World.setCell (World.setCell (World.setCell (World.setCell (World.setCell W4 _ _) _ _) _ _) _ _) _ _ = W6 at *
    clear kF4 kZ4 B4 s_0 s_1 s_2 s_3 s_4 t_0 t_1 t_2 t_3 t_4
    refine wpAny_take (i := 11) rfl (by kernel_rfl) (by kernel_rfl) (by kernel_rfl) (fun _ _ _ h => h) (Or.inl ⟨by rfl, (by intro w; go_simp; with_reducible rfl)⟩) ?_
    refine wpAny_done (by kernel_rfl) ?_ _
    have s_0 := g5.cell 0
    have s_1 := g5.cell 1
    have s_2 := g5.cell 2
    have s_3 := g5.cell 3
    have s_4 := g5.cell 4
    simp at s_0 s_1 s_2 s_3 s_4
    have r_0 := kZ5.cell 0
    have r_1 := kZ5.cell 1
    have r_2 := kZ5.cell 2
    have r_3 := kZ5.cell 3
    have r_4 := kZ5.cell 4
    simp at r_0 r_1 r_2 r_3 r_4
    have t_0 := kZ5.frozen 0
    have t_1 := kZ5.frozen 1
    have t_2 := kZ5.frozen 2
    have t_3 := kZ5.frozen 3
    have t_4 := kZ5.frozen 4
    go_wp2
    (try rw [marks_ret])
    obtain ⟨g7, B7⟩ := five_stores (v0 := .string T.a) (v1 := .string T.b) (v2 := .int .i64 T.x) (v3 := .int .i64 T.y) (v4 := .int .i64 T.l) kZ5 B5 (by omega)
    have q_0 := g7.cell 0
    have q_1 := g7.cell 1
    have q_2 := g7.cell 2
    have q_3 := g7.cell 3
    have q_4 := g7.cell 4
    simp at q_0 q_1 q_2 q_3 q_4
    generalize World.setCell (World.setCell (World.setCell (World.setCell (World.setCell _ _ _) _ _) _ _) _ _) _ _ = W7 at *
    have hRe := HP.out
    subst hRe
    exact bodyPost_ret (v := .tuple #[.agg #[.string T.a, .string T.b, .int .i64 T.x, .int .i64 T.y, .int .i64 T.l], .int .i64 (k : Int), .int .i64 E]) (by simp [results, Try.results11, go_sem, q_0, q_1, q_2, q_3, q_4]) rfl ⟨rfl, B7⟩
end Go.Proofs.Ythagnnaemcknfaa
