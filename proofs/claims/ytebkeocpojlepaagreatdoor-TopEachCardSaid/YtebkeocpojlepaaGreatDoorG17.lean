/- Contracts and plain laws, put together: Counts, All. -/
import Derived.Test.YtebkeocpojlepaaGreatDoorG16
import Derived.Test.YtebkeocpojlepaaGreatDoorG10
/- debounce.counts's closure over one vote. -/
namespace Go.Proofs.YtebkeocpojlepaaGreatDoor
open Go.RowKit Go.Shelf
set_option linter.unusedVariables false
set_option linter.unusedSimpArgs false
attribute [local go_sem] Oper.semAt_some

/-- all but the blocks of S is as it was -/
structure SameB (S : List Nat) (w w' : World) : Prop where
  os : w'.os = w.os
  tape : w'.tape = w.tape
  output : w'.output = w.output
  size : w.heap.size ≤ w'.heap.size
  block : ∀ k, k < w.heap.size → k ∉ S → w'.heap[k]? = w.heap[k]?
theorem SameB.refl (S : List Nat) (w : World) : SameB S w w := ⟨rfl, rfl, rfl, Nat.le_refl _, fun _ _ _ => rfl⟩
theorem SameB.trans {S : List Nat} {a b c : World} (h : SameB S a b) (k : SameB S b c) : SameB S a c :=
  ⟨k.os.trans h.os, k.tape.trans h.tape, k.output.trans h.output, Nat.le_trans h.size k.size, fun i hi hs => (k.block i (Nat.lt_of_lt_of_le hi h.size) hs).trans (h.block i hi hs)⟩
theorem SameB.alloc {S : List Nat} {w a : World} (h : SameB S w a) (o : Obj) : SameB S w (a.alloc o) :=
  h.trans ⟨rfl, rfl, rfl, by simp, fun k hk _ => Below.heap_alloc a o k hk⟩
theorem SameB.setCell {S : List Nat} {w a : World} (h : SameB S w a) (p : Addr) (hp : p.block ∈ S) (v : Value) : SameB S w (a.setCell p v) :=
  h.trans ⟨rfl, rfl, rfl, by show a.heap.size ≤ (a.heap.modify _ _).size; rw [Array.size_modify]; exact Nat.le_refl _, fun k hk hs => Below.heap_setCell a p v k (fun e => hs (e ▸ hp))⟩
theorem SameB.putObj {S : List Nat} {w a : World} (h : SameB S w a) (r : Nat) (hr : r ∈ S ∨ w.heap.size ≤ r) (o : Obj) : SameB S w (a.putObj r o) :=
  ⟨h.os, h.tape, h.output, by simpa using h.size, fun k hk hs => (World.putObj_heap_other (fun e => by rcases hr with hr | hr; exact hs (e ▸ hr); omega)).trans (h.block k hk hs)⟩
theorem below_put {B : Nat} {w a : World} (h : Below B w a) (r : Nat) (hr : B ≤ r) (o : Obj) : Below B w (a.putObj r o) :=
  ⟨h.os, h.tape, h.output, by simpa using h.size, fun k hk => (World.putObj_heap_other (by omega)).trans (h.block k hk)⟩

theorem says_any (v : Int) (w : World) : Calls Tryz.prog 76 #[.int .i64 v] w fun e w' => e = .returned (.bool (v == 1 || v == 2)) ∧ w = w' := by
  by_cases h1 : v = 1
  · subst h1
    go_enter Tryz.func76, Tryz.ntmps76
    go_wp2
    go_ret
    exact ⟨rfl, rfl⟩
  · have n1 : (v == 1) = false := by simpa using h1
    rw [n1, Bool.false_or]
    go_enter Tryz.func76, Tryz.ntmps76
    go_wp2
    go_ret
    exact ⟨rfl, rfl⟩

/-- a range over a function value that is entered: the record is hidden behind a name -/
theorem wide_range {P : Program} {n : Nat} {g : Operand} {ps : Array Tmp} {assign body : Code} {Q : Exit → Act → World → Prop} {a : Act} {w : World} {gf : Nat} {lb : Array Value} (hg : a.eval g = .func (.func gf) #[] lb) (eg : ∀ args w, (callFunc gf args).run P w = .ok (.enter gf args) w)
    (h : ∀ (fn : Nat) (rec : LoopState → Option Code → Loop), (rec = fun st pe => { state := st, pending := pe, fn, tmps := a.tmps, params := ps, assign, body, defers := w.heap.size }) → ∀ W2, W2.heap[w.heap.size + 1]? = some (.loop (rec .ready none)) → W2.heap[w.heap.size]? = some (.deferred (some [])) → SameB [] w W2 → W2.heap.size = w.heap.size + 2 →
      CallsIn Fence.wide (n - 1) P gf (#[.func (.yield (w.heap.size + 1)) #[] #[]] ++ lb) W2 (rangePost Fence.wide n P (w.heap.size + 1) Q { a with defers := { target := .collected w.heap.size, args := #[] } :: a.defers })) :
    (Code.rangeFunc g ps assign body).wpIn Fence.wide n P Q a w := by
  refine wpIn_rangeFunc ?_
  intro fn hfn
  obtain ⟨rec, hrec⟩ : ∃ rec : LoopState → Option Code → Loop, rec = fun st pe => { state := st, pending := pe, fn, tmps := a.tmps, params := ps, assign, body, defers := w.heap.size } := ⟨_, rfl⟩
  refine ⟨w.heap.size + 1, [{ target := .collected w.heap.size, args := #[] }], (w.alloc (.deferred (some []))).alloc (.loop (rec .ready none)), { target := .fn (.func gf) lb, args := #[.func (.yield (w.heap.size + 1)) #[] #[]] }, (w.alloc (.deferred (some []))).alloc (.loop (rec .ready none)), gf,
    #[.func (.yield (w.heap.size + 1)) #[] #[]] ++ lb, (w.alloc (.deferred (some []))).alloc (.loop (rec .ready none)), ?_, ?_, ?_, ?_, ?_, ?_⟩
  · rw [hrec]; exact run_enterLoop_outer _ _ _ _ _
  · simp only [resolve, hg]
    simp [go_sem]
  · intro f' hf'; trivial
  · simp [invoke, go_sem, eg]
  · intro h; simp [Fence.wide] at h
  · refine h fn rec hrec _ ?_ ?_ (((SameB.refl _ w).alloc _).alloc _) (by simp)
    · have := World.alloc_heap_new (w.alloc (.deferred (some []))) (.loop (rec .ready none)); rwa [World.size_alloc] at this
    · exact (Below.heap_alloc _ _ _ (by simp)).trans (World.alloc_heap_new w _)

theorem SameB.cell {S : List Nat} {w w' : World} (h : SameB S w w') {q : Addr} {v : Value} (hc : w.cell? q = some v) (hs : q.block ∉ S) : w'.cell? q = some v :=
  (World.cell?_of_block (h.block q.block (World.block_lt_of_cell? w q hc) hs)).trans hc
theorem SameB.blk {S : List Nat} {w w' : World} (h : SameB S w w') {A : Nat} {t : TypeId} {cs : Array Value} (k : Blk w A t cs) (hs : A ∉ S) : Blk w' A t cs := (h.block A k.lt hs).trans k

/-- how many agree -/
def agreeI (cv cn v : Int) : Int := if cv = v then cn + 1 else 1

set_option maxRecDepth 100000 in
set_option maxHeartbeats 4000000 in
theorem counts_one (n l Sb Cb Bs b cap : Nat) (v cv cn : Int) (hv : v = 1 ∨ v = 2) (hn : 0 ≤ cn ∧ cn ≤ 2) (W : World)
    (hS : W.cell? ⟨Sb, 0, none⟩ = some (.func (.func 124) #[] #[.pointer (some ⟨Bs, 0, none⟩)])) (hBs : W.cell? ⟨Bs, 0, none⟩ = some (.slice (some ⟨b, 0, none⟩) 1 cap)) (hc : W.cell? ⟨b, 0, none⟩ = some (.int .i64 v))
    (kC : Blk W Cb 34 #[.int .i64 cv, .int .i64 cn]) (hbC : b ≠ Cb) (RO : World → Prop) (hst : ∀ A B, RO A → Below W.heap.size A B → RO B)
    (hY : ∀ W1, SameB [Cb] W W1 → YieldAt Fence.wide n Tryz.prog l #[.agg #[.int .i64 v, .int .i64 (agreeI cv cn v)]] W1 fun e W' => e = .returned (.bool true) ∧ RO W' ∧ W1.heap.size ≤ W'.heap.size ∧ ∀ k, W.heap.size ≤ k → k < W1.heap.size → W'.heap[k]? = W1.heap[k]?) :
    CallsIn Fence.wide (n + 3) Tryz.prog 123 #[.func (.yield l) #[] #[], .pointer (some ⟨Sb, 0, none⟩), .pointer (some ⟨Cb, 0, none⟩)] W fun e W' => (∃ v, e = .returned v) ∧ RO W' := by
  refine callsIn_of_wp_marks Tryz.func123 rfl trivial ?_ rfl
  simp only [Tryz.ntmps123, List.size_toArray, List.length_cons, List.length_nil, Nat.reduceAdd, Nat.reduceSub, Array.replicate_succ, Array.replicate_zero, List.push_toArray, List.append_toArray, List.nil_append, List.cons_append]
  have hSl : Sb < W.heap.size := World.block_lt_of_cell? W ⟨Sb, 0, none⟩ hS
  gi_wp2
  have hy3 := World.alloc_heap_new W (.cells #[.func (.yield l) #[] #[]] 199)
  have S1 : SameB [Cb] W (W.alloc (.cells #[.func (.yield l) #[] #[]] 199)) := (SameB.refl _ W).alloc _
  have S0 : SameB [] W (W.alloc (.cells #[.func (.yield l) #[] #[]] 199)) := (SameB.refl _ W).alloc _
  have z1 : (W.alloc (.cells #[.func (.yield l) #[] #[]] 199)).heap.size = W.heap.size + 1 := by simp
  generalize World.alloc W _ = W1 at *
  refine wide_range (gf := 124) (lb := #[.pointer (some ⟨Bs, 0, none⟩)]) rfl (enters_of Tryz.func124 (by kernel_rfl) rfl) ?_
  intro fn rec hrec W2 hl2 hd2 S2 z2
  have S1' : SameB [] W W1 := S0
  have S3 : SameB [Cb] W W2 := S1.trans ⟨S2.os, S2.tape, S2.output, S2.size, fun k hk _ => S2.block k hk (by simp)⟩
  have hBsl : Bs < W.heap.size := World.block_lt_of_cell? W ⟨Bs, 0, none⟩ hBs
  have hbl : b < W.heap.size := World.block_lt_of_cell? W ⟨b, 0, none⟩ hc
  have hCl := kC.lt
  have nCs : Bs ≠ Cb := by intro e; subst e; have h1 := kC.cell 0; simp at h1; rw [hBs] at h1; cases h1
  have nCb : b ≠ Cb := hbC
  refine (vals_one _ (W1.heap.size + 1) Bs b cap v W2 ?_ ?_ (fun W9 => RO W9 ∧ W9.heap[W1.heap.size + 1]? = some (.loop (rec .ready none)) ∧ W9.heap[W1.heap.size]? = some (.deferred (some []))) ?_).mono ?_
  · exact S3.cell hBs (by simpa using nCs)
  · exact S3.cell hc (by simpa using nCb)
  · have S3' : SameB [] W W2 := (⟨S1'.os, S1'.tape, S1'.output, S1'.size, fun k hk _ => S1'.block k hk (by simp)⟩ : SameB [] W W1).trans S2
    have hl3 : W.heap.size < W2.heap.size := by omega
    have kC2 : Blk W2 Cb 34 #[.int .i64 cv, .int .i64 cn] := S3'.blk kC (by simp)
    have hy2 : Blk W2 W.heap.size 199 #[.func (.yield l) #[] #[]] := S2.blk hy3 (by simp)
    have z2' : W2.heap.size = W.heap.size + 3 := by omega
    have hlt2 : W1.heap.size + 1 < W2.heap.size := by omega
    have hrec2 := hrec
    have hbeg := run_beginRound (P := Tryz.prog) hl2 (by rw [hrec])
    obtain ⟨W4, hW4⟩ : ∃ W4, W2.putObj (W1.heap.size + 1) (.loop { rec .ready none with state := .busy }) = W4 := ⟨_, rfl⟩
    rw [hW4] at hbeg
    have S4 : SameB [Cb] W W4 := by rw [← hW4]; exact S3.putObj _ (.inr (by omega)) _
    have S4' : SameB [] W W4 := by rw [← hW4]; exact S3'.putObj _ (.inr (by omega)) _
    have kC4 : Blk W4 Cb 34 #[.int .i64 cv, .int .i64 cn] := S4'.blk kC (by simp)
    have hy4 : Blk W4 W.heap.size 199 #[.func (.yield l) #[] #[]] := by rw [← hW4]; exact (World.putObj_heap_other (by omega)).trans hy2
    have hl4 : W4.heap[W1.heap.size + 1]? = some (.loop { rec .ready none with state := .busy }) := by rw [← hW4]; exact World.putObj_heap_same hlt2
    have hd4 : W4.heap[W1.heap.size]? = some (.deferred (some [])) := by rw [← hW4]; exact (World.putObj_heap_other (by omega)).trans hd2
    have z4 : W4.heap.size = W.heap.size + 3 := by rw [← hW4]; simpa using z2'
    clear hW4
    subst hrec
    refine ⟨fn, _, _, _, run_yield (args := #[.int .i64 v]) hl2 rfl, roundIn_of_wpIn trivial ?_⟩
    have hv12 : (v == 1 || v == 2) = true := by rcases hv with rfl | rfl <;> rfl
    by_cases hcv : cv = v
    · subst hcv
      obtain rfl | rfl | rfl : cn = 0 ∨ cn = 1 ∨ cn = 2 := by omega
      ·
        rw [show agreeI cv 0 cv = 1 by simp [agreeI]] at hY
        obtain ⟨fn5, tm5, as5, bo5, hy5, hR5⟩ := hY ((W4.setCell ⟨Cb, 0, none⟩ (.int .i64 cv)).setCell ⟨Cb, 1, none⟩ (.int .i64 1)) ((S4.setCell _ (by simp) _).setCell _ (by simp) _)
        have zs : ((W4.setCell ⟨Cb, 0, none⟩ (.int .i64 cv)).setCell ⟨Cb, 1, none⟩ (.int .i64 1)).heap.size = W.heap.size + 3 := by simp [z4]
        have hs : ∀ k, k ≠ Cb → ((W4.setCell ⟨Cb, 0, none⟩ (.int .i64 cv)).setCell ⟨Cb, 1, none⟩ (.int .i64 1)).heap[k]? = W4.heap[k]? := fun k hk => (Below.heap_setCell _ ⟨Cb, 1, none⟩ _ k hk).trans (Below.heap_setCell _ ⟨Cb, 0, none⟩ _ k hk)
        have HZ := Lib.hid zs
        have HS := Lib.hid hs
        clear zs hs
        have c_0 := kC4.cell 0
        have c_1 := kC4.cell 1
        have f_0 := kC4.frozen 0
        have f_1 := kC4.frozen 1
        have y_0 := hy4.cell 0
        have nYC : W.heap.size ≠ Cb := by omega
        have nCY : Cb ≠ W.heap.size := by omega
        simp at c_0 c_1 y_0
        have HD := Lib.hid hd4
        have HL := Lib.hid hl4
        have HST := Lib.hid hst
        have HSZ := Lib.hid (show W1.heap.size = W.heap.size + 1 from z1)
        clear hd4 hl4 hl2 hd2 S4 S4' S3 S3' S2 S1 S1' S0 hy4 kC4 kC2 hy2 hS hBs hc kC hrec2 hY hy3 hst
        gi_wp2
        refine ⟨_, hbeg, ?_⟩
        clear hbeg
        gi_wp2_with (refine ⟨trivial, ?_⟩; gi_at_call 76; refine (CallsIn.inRound (W1.heap.size + 1) (callsIn_wide.2 (says_any cv _))).mono ?_; rintro e w5 ⟨rfl, rfl⟩; rw [hv12])
        refine RoundIn.mono (F := Fence.wide.inRound (W.heap.size + 1 + 1)) hR5 ?_
        rintro e W6 ⟨rfl, hRO, hsz, hkeep⟩
        gi_wp2
        have hl6 := (hkeep (W1.heap.size + 1) (by rw [z1]; omega) (by rw [HZ.out, z1]; omega)).trans ((HS.out (W1.heap.size + 1) (by rw [z1]; omega)).trans HL.out)
        have hd6 := (hkeep W1.heap.size (by rw [z1]; omega) (by rw [HZ.out, z1]; omega)).trans ((HS.out W1.heap.size (by rw [z1]; omega)).trans HD.out)
        have hlt6 : W1.heap.size + 1 < W6.heap.size := by have := HZ.out; omega
        exact ⟨_, _, run_endRound none hl6, rfl, HST.out _ _ hRO (below_put (Below.refl _ _) _ (by omega) _), World.putObj_heap_same hlt6, (World.putObj_heap_other (by omega)).trans hd6⟩
      ·
        rw [show agreeI cv 1 cv = 2 by simp [agreeI]] at hY
        obtain ⟨fn5, tm5, as5, bo5, hy5, hR5⟩ := hY ((W4.setCell ⟨Cb, 0, none⟩ (.int .i64 cv)).setCell ⟨Cb, 1, none⟩ (.int .i64 2)) ((S4.setCell _ (by simp) _).setCell _ (by simp) _)
        have zs : ((W4.setCell ⟨Cb, 0, none⟩ (.int .i64 cv)).setCell ⟨Cb, 1, none⟩ (.int .i64 2)).heap.size = W.heap.size + 3 := by simp [z4]
        have hs : ∀ k, k ≠ Cb → ((W4.setCell ⟨Cb, 0, none⟩ (.int .i64 cv)).setCell ⟨Cb, 1, none⟩ (.int .i64 2)).heap[k]? = W4.heap[k]? := fun k hk => (Below.heap_setCell _ ⟨Cb, 1, none⟩ _ k hk).trans (Below.heap_setCell _ ⟨Cb, 0, none⟩ _ k hk)
        have HZ := Lib.hid zs
        have HS := Lib.hid hs
        clear zs hs
        have c_0 := kC4.cell 0
        have c_1 := kC4.cell 1
        have f_0 := kC4.frozen 0
        have f_1 := kC4.frozen 1
        have y_0 := hy4.cell 0
        have nYC : W.heap.size ≠ Cb := by omega
        have nCY : Cb ≠ W.heap.size := by omega
        simp at c_0 c_1 y_0
        have HD := Lib.hid hd4
        have HL := Lib.hid hl4
        have HST := Lib.hid hst
        have HSZ := Lib.hid (show W1.heap.size = W.heap.size + 1 from z1)
        clear hd4 hl4 hl2 hd2 S4 S4' S3 S3' S2 S1 S1' S0 hy4 kC4 kC2 hy2 hS hBs hc kC hrec2 hY hy3 hst
        gi_wp2
        refine ⟨_, hbeg, ?_⟩
        clear hbeg
        gi_wp2_with (refine ⟨trivial, ?_⟩; gi_at_call 76; refine (CallsIn.inRound (W1.heap.size + 1) (callsIn_wide.2 (says_any cv _))).mono ?_; rintro e w5 ⟨rfl, rfl⟩; rw [hv12])
        refine RoundIn.mono (F := Fence.wide.inRound (W.heap.size + 1 + 1)) hR5 ?_
        rintro e W6 ⟨rfl, hRO, hsz, hkeep⟩
        gi_wp2
        have hl6 := (hkeep (W1.heap.size + 1) (by rw [z1]; omega) (by rw [HZ.out, z1]; omega)).trans ((HS.out (W1.heap.size + 1) (by rw [z1]; omega)).trans HL.out)
        have hd6 := (hkeep W1.heap.size (by rw [z1]; omega) (by rw [HZ.out, z1]; omega)).trans ((HS.out W1.heap.size (by rw [z1]; omega)).trans HD.out)
        have hlt6 : W1.heap.size + 1 < W6.heap.size := by have := HZ.out; omega
        exact ⟨_, _, run_endRound none hl6, rfl, HST.out _ _ hRO (below_put (Below.refl _ _) _ (by omega) _), World.putObj_heap_same hlt6, (World.putObj_heap_other (by omega)).trans hd6⟩
      ·
        rw [show agreeI cv 2 cv = 3 by simp [agreeI]] at hY
        obtain ⟨fn5, tm5, as5, bo5, hy5, hR5⟩ := hY ((W4.setCell ⟨Cb, 0, none⟩ (.int .i64 cv)).setCell ⟨Cb, 1, none⟩ (.int .i64 3)) ((S4.setCell _ (by simp) _).setCell _ (by simp) _)
        have zs : ((W4.setCell ⟨Cb, 0, none⟩ (.int .i64 cv)).setCell ⟨Cb, 1, none⟩ (.int .i64 3)).heap.size = W.heap.size + 3 := by simp [z4]
        have hs : ∀ k, k ≠ Cb → ((W4.setCell ⟨Cb, 0, none⟩ (.int .i64 cv)).setCell ⟨Cb, 1, none⟩ (.int .i64 3)).heap[k]? = W4.heap[k]? := fun k hk => (Below.heap_setCell _ ⟨Cb, 1, none⟩ _ k hk).trans (Below.heap_setCell _ ⟨Cb, 0, none⟩ _ k hk)
        have HZ := Lib.hid zs
        have HS := Lib.hid hs
        clear zs hs
        have c_0 := kC4.cell 0
        have c_1 := kC4.cell 1
        have f_0 := kC4.frozen 0
        have f_1 := kC4.frozen 1
        have y_0 := hy4.cell 0
        have nYC : W.heap.size ≠ Cb := by omega
        have nCY : Cb ≠ W.heap.size := by omega
        simp at c_0 c_1 y_0
        have HD := Lib.hid hd4
        have HL := Lib.hid hl4
        have HST := Lib.hid hst
        have HSZ := Lib.hid (show W1.heap.size = W.heap.size + 1 from z1)
        clear hd4 hl4 hl2 hd2 S4 S4' S3 S3' S2 S1 S1' S0 hy4 kC4 kC2 hy2 hS hBs hc kC hrec2 hY hy3 hst
        gi_wp2
        refine ⟨_, hbeg, ?_⟩
        clear hbeg
        gi_wp2_with (refine ⟨trivial, ?_⟩; gi_at_call 76; refine (CallsIn.inRound (W1.heap.size + 1) (callsIn_wide.2 (says_any cv _))).mono ?_; rintro e w5 ⟨rfl, rfl⟩; rw [hv12])
        refine RoundIn.mono (F := Fence.wide.inRound (W.heap.size + 1 + 1)) hR5 ?_
        rintro e W6 ⟨rfl, hRO, hsz, hkeep⟩
        gi_wp2
        have hl6 := (hkeep (W1.heap.size + 1) (by rw [z1]; omega) (by rw [HZ.out, z1]; omega)).trans ((HS.out (W1.heap.size + 1) (by rw [z1]; omega)).trans HL.out)
        have hd6 := (hkeep W1.heap.size (by rw [z1]; omega) (by rw [HZ.out, z1]; omega)).trans ((HS.out W1.heap.size (by rw [z1]; omega)).trans HD.out)
        have hlt6 : W1.heap.size + 1 < W6.heap.size := by have := HZ.out; omega
        exact ⟨_, _, run_endRound none hl6, rfl, HST.out _ _ hRO (below_put (Below.refl _ _) _ (by omega) _), World.putObj_heap_same hlt6, (World.putObj_heap_other (by omega)).trans hd6⟩
    · have hcv1 : (cv == v) = false := by simpa using hcv
      rw [show agreeI cv cn v = 1 by simp [agreeI, hcv]] at hY
      obtain ⟨fn5, tm5, as5, bo5, hy5, hR5⟩ := hY ((W4.setCell ⟨Cb, 0, none⟩ (.int .i64 v)).setCell ⟨Cb, 1, none⟩ (.int .i64 1)) ((S4.setCell _ (by simp) _).setCell _ (by simp) _)
      have zs : ((W4.setCell ⟨Cb, 0, none⟩ (.int .i64 v)).setCell ⟨Cb, 1, none⟩ (.int .i64 1)).heap.size = W.heap.size + 3 := by simp [z4]
      have hs : ∀ k, k ≠ Cb → ((W4.setCell ⟨Cb, 0, none⟩ (.int .i64 v)).setCell ⟨Cb, 1, none⟩ (.int .i64 1)).heap[k]? = W4.heap[k]? := fun k hk => (Below.heap_setCell _ ⟨Cb, 1, none⟩ _ k hk).trans (Below.heap_setCell _ ⟨Cb, 0, none⟩ _ k hk)
      have HZ := Lib.hid zs
      have HS := Lib.hid hs
      clear zs hs
      have c_0 := kC4.cell 0
      have c_1 := kC4.cell 1
      have f_0 := kC4.frozen 0
      have f_1 := kC4.frozen 1
      have y_0 := hy4.cell 0
      have nYC : W.heap.size ≠ Cb := by omega
      have nCY : Cb ≠ W.heap.size := by omega
      simp at c_0 c_1 y_0
      have HD := Lib.hid hd4
      have HL := Lib.hid hl4
      have HST := Lib.hid hst
      have HSZ := Lib.hid (show W1.heap.size = W.heap.size + 1 from z1)
      clear hd4 hl4 hl2 hd2 S4 S4' S3 S3' S2 S1 S1' S0 hy4 kC4 kC2 hy2 hS hBs hc kC hrec2 hY hy3 hst
      gi_wp2
      refine ⟨_, hbeg, ?_⟩
      clear hbeg
      gi_wp2_with (refine ⟨trivial, ?_⟩; gi_at_call 76; refine (CallsIn.inRound (W1.heap.size + 1) (callsIn_wide.2 (says_any v _))).mono ?_; rintro e w5 ⟨rfl, rfl⟩; rw [hv12])
      refine RoundIn.mono (F := Fence.wide.inRound (W.heap.size + 1 + 1)) hR5 ?_
      rintro e W6 ⟨rfl, hRO, hsz, hkeep⟩
      gi_wp2
      have hl6 := (hkeep (W1.heap.size + 1) (by rw [z1]; omega) (by rw [HZ.out, z1]; omega)).trans ((HS.out (W1.heap.size + 1) (by rw [z1]; omega)).trans HL.out)
      have hd6 := (hkeep W1.heap.size (by rw [z1]; omega) (by rw [HZ.out, z1]; omega)).trans ((HS.out W1.heap.size (by rw [z1]; omega)).trans HD.out)
      have hlt6 : W1.heap.size + 1 < W6.heap.size := by have := HZ.out; omega
      exact ⟨_, _, run_endRound none hl6, rfl, HST.out _ _ hRO (below_put (Below.refl _ _) _ (by omega) _), World.putObj_heap_same hlt6, (World.putObj_heap_other (by omega)).trans hd6⟩
  · rintro e W9 ⟨⟨u, rfl⟩, hRO, hl9, hd9⟩
    refine ⟨none, _, (by have := run_endLoop (P := Tryz.prog) hl9 (by rw [hrec]; simp); rw [hrec] at this; exact this), ?_⟩
    have hd10 : (W9.putObj (W1.heap.size + 1) (.loop { rec .ready none with state := .exhausted })).heap[W1.heap.size]? = some (.deferred (some [])) := (World.putObj_heap_other (by omega)).trans hd9
    rw [hrec] at hd10
    have hR10 := hst _ _ hRO (below_put (Below.refl W.heap.size W9) (W1.heap.size + 1) (by omega) (.loop { rec .ready none with state := .exhausted }))
    rw [hrec] at hR10
    clear hl9 hd9 hl2 hd2
    simp only [] at hd10 hR10 ⊢
    generalize World.putObj W9 _ _ = W10 at *
    rw [z1] at hd10
    gi_wp2
    refine ⟨by simp, .inl ⟨_, _, rfl, run_takeDeferred hd10, ?_⟩⟩
    exact ⟨_, results_none rfl _ _ _, ⟨_, rfl⟩, hst _ _ hR10 (below_put (Below.refl _ _) _ (by omega) _)⟩
end Go.Proofs.YtebkeocpojlepaaGreatDoor

/- debounce.All over one vote; Add; Verdict. -/
namespace Go.Proofs.YtebkeocpojlepaaGreatDoor
open Go.RowKit Go.Shelf
set_option linter.unusedVariables false
set_option linter.unusedSimpArgs false
attribute [local go_sem] Oper.semAt_some

theorem Values_any (a : Option Addr) (len cap : Nat) (w : World) :
    Calls Tryz.prog 100 #[.slice a len cap] w fun e w' => e = .returned (.func (.func 124) #[] #[.pointer (some ⟨w.heap.size, 0, none⟩)]) ∧ w' = w.alloc (.cells #[.slice a len cap] 137) := by
  go_enter Tryz.func100, Tryz.ntmps100
  go_wp2
  go_ret
  exact ⟨rfl, rfl⟩
theorem counts_any (cv cn : Int) (f : Value) (hf : ∃ fn l x, f = .func fn l x) (w : World) :
    Calls Tryz.prog 99 #[.agg #[.int .i64 cv, .int .i64 cn], f] w fun e w' =>
      e = .returned (.func (.func 123) #[] #[.pointer (some ⟨w.heap.size + 1, 0, none⟩), .pointer (some ⟨w.heap.size, 0, none⟩)]) ∧ w' = (w.alloc (.cells #[.int .i64 cv, .int .i64 cn] 34)).alloc (.cells #[f] 173) := by
  obtain ⟨fn, l, x, rfl⟩ := hf
  go_enter Tryz.func99, Tryz.ntmps99
  go_wp2
  go_ret
  exact ⟨rfl, rfl⟩

set_option maxRecDepth 100000 in
set_option maxHeartbeats 4000000 in
theorem All_one (cv cn v : Int) (hv : v = 1 ∨ v = 2) (hn : 0 ≤ cn ∧ cn ≤ 2) (b cap : Nat) (w : World) (hc : w.cell? ⟨b, 0, none⟩ = some (.int .i64 v)) :
    Calls Tryz.prog 72 #[.agg #[.int .i64 cv, .int .i64 cn], .slice (some ⟨b, 0, none⟩) 1 cap] w fun e w' => e = .returned (.agg #[.int .i64 v, .int .i64 (agreeI cv cn v)]) ∧ Below w.heap.size w w' := by
  have hbl : b < w.heap.size := World.block_lt_of_cell? w ⟨b, 0, none⟩ hc
  have k0 := (Blk.new w 34 #[.int .i64 cv, .int .i64 cn]).alloc (.cells #[.int .i64 0, .int .i64 0] 34)
  have k1 := Blk.new (w.alloc (.cells #[.int .i64 cv, .int .i64 cn] 34)) 34 #[.int .i64 0, .int .i64 0]
  rw [World.size_alloc] at k1
  refine (callsIn_wide (n := 10)).1 ?_
  refine callsIn_of_wp_marks Tryz.func72 rfl trivial ?_ rfl
  simp only [Tryz.ntmps72, List.size_toArray, List.length_cons, List.length_nil, Nat.reduceAdd, Nat.reduceSub, Array.replicate_succ, Array.replicate_zero, List.push_toArray, List.append_toArray, List.nil_append, List.cons_append]
  gi_wp2
  have B0 : Below w.heap.size w ((w.alloc (.cells #[.int .i64 cv, .int .i64 cn] 34)).alloc (.cells #[.int .i64 0, .int .i64 0] 34)) := ((Below.refl _ w).alloc (Nat.le_refl _) _).alloc (by simp) _
  have z0 : ((w.alloc (.cells #[.int .i64 cv, .int .i64 cn] 34)).alloc (.cells #[.int .i64 0, .int .i64 0] 34)).heap.size = w.heap.size + 2 := by simp
  generalize World.alloc (World.alloc w _) _ = W0 at *
  refine wpIn_wide.2 ?_
  refine wp_region_any (by kernel_rfl) ?_
  have kD0 : Blk { W0 with drawn := W0.drawn + 1 } w.heap.size 34 #[.int .i64 cv, .int .i64 cn] := k0
  have kD1 : Blk { W0 with drawn := W0.drawn + 1 } (w.heap.size + 1) 34 #[.int .i64 0, .int .i64 0] := k1
  have BD : Below w.heap.size w { W0 with drawn := W0.drawn + 1 } := B0.drew
  have zD : ({ W0 with drawn := W0.drawn + 1 } : World).heap.size = w.heap.size + 2 := z0
  generalize ({ W0 with drawn := W0.drawn + 1 } : World) = W1 at *
  clear k0 k1 B0 z0
  have x_0 := kD0.cell 0
  have x_1 := kD0.cell 1
  simp at x_0 x_1
  have hlt : w.heap.size < W1.heap.size := by omega
  obtain ⟨W2, hW2⟩ : ∃ W2, W1.alloc (.cells #[.slice (some ⟨b, 0, none⟩) 1 cap] 137) = W2 := ⟨_, rfl⟩
  have hVal := Values_any (some ⟨b, 0, none⟩) 1 cap W1
  rw [hW2] at hVal
  have kB2 : Blk W2 (w.heap.size + 2) 137 #[.slice (some ⟨b, 0, none⟩) 1 cap] := by rw [← hW2, ← zD]; exact Blk.new _ _ _
  have kE0 : Blk W2 w.heap.size 34 #[.int .i64 cv, .int .i64 cn] := by rw [← hW2]; exact kD0.alloc _
  have kE1 : Blk W2 (w.heap.size + 1) 34 #[.int .i64 0, .int .i64 0] := by rw [← hW2]; exact kD1.alloc _
  have BE : Below w.heap.size w W2 := by rw [← hW2]; exact BD.alloc (by omega) _
  have zE : W2.heap.size = w.heap.size + 3 := by rw [← hW2]; simp [zD]
  have y_0 := kE0.cell 0
  have y_1 := kE0.cell 1
  simp at y_0 y_1
  rw [zD] at hVal
  have hCnt := counts_any cv cn (.func (.func 124) #[] #[.pointer (some ⟨w.heap.size + 2, 0, none⟩)]) ⟨_, _, _, rfl⟩ W2
  rw [zE] at hCnt
  obtain ⟨W3, hW3⟩ : ∃ W3, (W2.alloc (.cells #[.int .i64 cv, .int .i64 cn] 34)).alloc (.cells #[.func (.func 124) #[] #[.pointer (some ⟨w.heap.size + 2, 0, none⟩)]] 173) = W3 := ⟨_, rfl⟩
  rw [hW3] at hCnt
  have z4 : (W2.alloc (.cells #[.int .i64 cv, .int .i64 cn] 34)).heap.size = w.heap.size + 4 := by simp [zE]
  have kC3 : Blk W3 (w.heap.size + 3) 34 #[.int .i64 cv, .int .i64 cn] := by rw [← hW3, ← zE]; exact (Blk.new _ _ _).alloc _
  have kS3 : Blk W3 (w.heap.size + 4) 173 #[.func (.func 124) #[] #[.pointer (some ⟨w.heap.size + 2, 0, none⟩)]] := by rw [← hW3, ← z4]; exact Blk.new _ _ _
  have kB3 : Blk W3 (w.heap.size + 2) 137 #[.slice (some ⟨b, 0, none⟩) 1 cap] := by rw [← hW3]; exact (kB2.alloc _).alloc _
  have kF0 : Blk W3 w.heap.size 34 #[.int .i64 cv, .int .i64 cn] := by rw [← hW3]; exact (kE0.alloc _).alloc _
  have kF1 : Blk W3 (w.heap.size + 1) 34 #[.int .i64 0, .int .i64 0] := by rw [← hW3]; exact (kE1.alloc _).alloc _
  have BF : Below w.heap.size w W3 := by rw [← hW3]; exact (BE.alloc (by omega) _).alloc (by omega) _
  have zF : W3.heap.size = w.heap.size + 5 := by rw [← hW3]; simp [zE]
  clear hW2 hW3 kB2 kE0 kE1 BE kD0 kD1 BD
  refine wpAny_ready (fuel := 3) (rs := [0, 1]) (by kernel_rfl) (by simp) ?_
  refine AllReady.cons rfl (fun K hK => ?_) (AllReady.cons rfl (fun K hK => ?_) AllReady.nil)
  case refine_1 =>
    go_simp
    refine hK _ _ ?_
    clear hK K
    refine wpAny_ready (rs := [1]) (by kernel_rfl) (by simp) ?_
    refine AllReady.cons rfl (fun K hK => ?_) AllReady.nil
    go_simp
    refine hK _ _ ?_
    clear hK K
    refine wpAny_ready (rs := [2]) (by kernel_rfl) (by simp) ?_
    refine AllReady.cons rfl (fun K hK => ?_) AllReady.nil
    go_simp
    refine hVal.mono ?_
    rintro e w5 ⟨rfl, rfl⟩
    refine hK _ _ ?_
    clear hK K
    refine wpAny_ready (rs := [3]) (by kernel_rfl) (by simp) ?_
    refine AllReady.cons rfl (fun K hK => ?_) AllReady.nil
    go_simp
    refine hCnt.mono ?_
    rintro e w6 ⟨rfl, rfl⟩
    refine hK _ _ ?_
    clear hK K
    refine wpAny_done (by kernel_rfl) ?_ _
    clear hVal hCnt x_0 x_1 y_0 y_1
    gi_wp2
    refine wide_range (gf := 123) (lb := #[.pointer (some ⟨w.heap.size + 4, 0, none⟩), .pointer (some ⟨w.heap.size + 3, 0, none⟩)]) rfl (enters_of Tryz.func123 (by kernel_rfl) rfl) ?_
    intro fn rec hrec W4 hl4 hd4 S4 z4
    have z5 : W4.heap.size = w.heap.size + 7 := by omega
    have bcell : W4.cell? ⟨b, 0, none⟩ = some (.int .i64 v) := S4.cell ((BF.cell (p := ⟨b, 0, none⟩) hbl).trans hc) (by simp)
    have BG : Below w.heap.size w W4 := BF.trans ⟨S4.os, S4.tape, S4.output, S4.size, fun k hk => S4.block k (by omega) (by simp)⟩
    have kG0 := S4.blk kF0 (by simp)
    have kG1 := S4.blk kF1 (by simp)
    have sC := (S4.blk kS3 (by simp)).cell 0
    have bC := (S4.blk kB3 (by simp)).cell 0
    simp at sC bC
    refine (counts_one 6 (w6.heap.size + 1) (w.heap.size + 4) (w.heap.size + 3) (w.heap.size + 2) b cap v cv cn hv hn W4 sC bC bcell (S4.blk kC3 (by simp)) (by omega)
      (fun W' => Blk W' w.heap.size 34 #[.int .i64 v, .int .i64 (agreeI cv cn v)] ∧ Blk W' (w.heap.size + 1) 34 #[.int .i64 0, .int .i64 0] ∧ W'.heap[w6.heap.size + 1]? = some (.loop (rec .ready none)) ∧ W'.heap[w6.heap.size]? = some (.deferred (some [])) ∧ Below w.heap.size w W')
      ?_ ?_).mono ?_
    case refine_1 =>
      rintro A B ⟨h1, h2, h3, h4, h5⟩ hb
      exact ⟨(hb.block _ (by omega)).trans h1, (hb.block _ (by omega)).trans h2, (hb.block _ (by omega)).trans h3, (hb.block _ (by omega)).trans h4, h5.trans (hb.mono (by omega))⟩
    case refine_2 =>
      intro W5 S5
      have hl5 := (S5.block (w6.heap.size + 1) (by omega) (by simp; omega)).trans hl4
      have hd5 := (S5.block w6.heap.size (by omega) (by simp; omega)).trans hd4
      have kH0 := S5.blk kG0 (by simp)
      have kH1 := S5.blk kG1 (by simp)
      have BH : Below w.heap.size w W5 := BG.trans ⟨S5.os, S5.tape, S5.output, S5.size, fun k hk => S5.block k (by omega) (by simp; omega)⟩
      have zz := S5.size
      subst hrec
      refine ⟨fn, _, _, _, run_yield (args := #[.agg #[.int .i64 v, .int .i64 (agreeI cv cn v)]]) hl5 rfl, roundIn_of_wpIn trivial ?_⟩
      have t_0 := kH0.cell 0
      have t_1 := kH0.cell 1
      have f_0 := kH0.frozen 0
      have f_1 := kH0.frozen 1
      simp at t_0 t_1
      generalize agreeI cv cn v = nv at *
      gi_wp2
      have kI0 : Blk ((W5.setCell ⟨w.heap.size, 0, none⟩ (.int .i64 v)).setCell ⟨w.heap.size, 1, none⟩ (.int .i64 nv)) w.heap.size 34 #[.int .i64 v, .int .i64 nv] := by simpa using (kH0.set 0 (.int .i64 v)).set 1 (.int .i64 nv)
      have kIo : ∀ k, k ≠ w.heap.size → ((W5.setCell ⟨w.heap.size, 0, none⟩ (.int .i64 v)).setCell ⟨w.heap.size, 1, none⟩ (.int .i64 nv)).heap[k]? = W5.heap[k]? := fun k hk => (Below.heap_setCell _ ⟨w.heap.size, 1, none⟩ _ k hk).trans (Below.heap_setCell _ ⟨w.heap.size, 0, none⟩ _ k hk)
      have BI : Below w.heap.size w ((W5.setCell ⟨w.heap.size, 0, none⟩ (.int .i64 v)).setCell ⟨w.heap.size, 1, none⟩ (.int .i64 nv)) := (BH.setCell (p := ⟨w.heap.size, 0, none⟩) (Nat.le_refl _) _).setCell (p := ⟨w.heap.size, 1, none⟩) (Nat.le_refl _) _
      have zI : ((W5.setCell ⟨w.heap.size, 0, none⟩ (.int .i64 v)).setCell ⟨w.heap.size, 1, none⟩ (.int .i64 nv)).heap.size = W5.heap.size := by simp
      generalize (W5.setCell ⟨w.heap.size, 0, none⟩ (.int .i64 v)).setCell ⟨w.heap.size, 1, none⟩ (.int .i64 nv) = W6 at *
      have hl6 := (kIo (w6.heap.size + 1) (by omega)).trans hl5
      have hd6 := (kIo w6.heap.size (by omega)).trans hd5
      have kI1 := (kIo (w.heap.size + 1) (by omega)).trans kH1
      refine ⟨_, run_beginRound hl6 rfl, ?_⟩
      gi_wp2
      have hlt6 : w6.heap.size + 1 < W6.heap.size := by omega
      refine ⟨_, _, run_endRound none (World.putObj_heap_same hlt6), rfl, ⟨?_, ?_, World.putObj_heap_same (by simpa using hlt6), ?_, ?_⟩, by simp; omega, ?_⟩
      · exact (World.putObj_heap_other (by omega)).trans ((World.putObj_heap_other (by omega)).trans kI0)
      · exact (World.putObj_heap_other (by omega)).trans ((World.putObj_heap_other (by omega)).trans kI1)
      · exact (World.putObj_heap_other (by omega)).trans ((World.putObj_heap_other (by omega)).trans hd6)
      · exact below_put (below_put BI _ (by omega) _) _ (by omega) _
      · intro k h1 h2
        exact (World.putObj_heap_other (by omega)).trans ((World.putObj_heap_other (by omega)).trans (kIo k (by omega)))
    case refine_3 =>
      rintro e W9 ⟨⟨u, rfl⟩, k0, k1, hl9, hd9, B9⟩
      have hend : (Instr.endLoop (w6.heap.size + 1)).run Tryz.prog W9 = .ok none (W9.putObj (w6.heap.size + 1) (.loop { rec .ready none with state := .exhausted })) := by
        have := run_endLoop (P := Tryz.prog) hl9 (by rw [hrec]; simp)
        rw [this]; rw [hrec]
      refine ⟨none, _, hend, ?_⟩
      have k0' : Blk (W9.putObj (w6.heap.size + 1) (.loop { rec .ready none with state := .exhausted })) w.heap.size 34 #[.int .i64 v, .int .i64 (agreeI cv cn v)] := (World.putObj_heap_other (by omega)).trans k0
      have k1' : Blk (W9.putObj (w6.heap.size + 1) (.loop { rec .ready none with state := .exhausted })) (w.heap.size + 1) 34 #[.int .i64 0, .int .i64 0] := (World.putObj_heap_other (by omega)).trans k1
      have d' : (W9.putObj (w6.heap.size + 1) (.loop { rec .ready none with state := .exhausted })).heap[w6.heap.size]? = some (.deferred (some [])) := (World.putObj_heap_other (by omega)).trans hd9
      have B' := below_put B9 (w6.heap.size + 1) (by omega) (.loop { rec .ready none with state := .exhausted })
      clear hend hl9 hd9 k0 k1 B9 hl4 hd4 S4 kG0 kG1
      generalize World.putObj W9 _ _ = W10 at *
      clear hrec
      rw [zF] at d'
      generalize hnv : agreeI cv cn v = nv at *
      have t_0 := k0'.cell 0
      have t_1 := k0'.cell 1
      have u_0 := k1'.cell 0
      have u_1 := k1'.cell 1
      have f_0 := k1'.frozen 0
      have f_1 := k1'.frozen 1
      simp at t_0 t_1 u_0 u_1
      gi_wp2
      have kR : Blk ((W10.setCell ⟨w.heap.size + 1, 0, none⟩ (.int .i64 v)).setCell ⟨w.heap.size + 1, 1, none⟩ (.int .i64 nv)) (w.heap.size + 1) 34 #[.int .i64 v, .int .i64 nv] := by simpa using (k1'.set 0 (.int .i64 v)).set 1 (.int .i64 nv)
      have BR := (B'.setCell (p := ⟨w.heap.size + 1, 0, none⟩) (Nat.le_succ _) (.int .i64 v)).setCell (p := ⟨w.heap.size + 1, 1, none⟩) (Nat.le_succ _) (.int .i64 nv)
      have dR : ((W10.setCell ⟨w.heap.size + 1, 0, none⟩ (.int .i64 v)).setCell ⟨w.heap.size + 1, 1, none⟩ (.int .i64 nv)).heap[w.heap.size + 5]? = some (.deferred (some [])) := ((Below.heap_setCell _ ⟨w.heap.size + 1, 1, none⟩ _ _ (by show w.heap.size + 5 ≠ w.heap.size + 1; omega)).trans (Below.heap_setCell _ ⟨w.heap.size + 1, 0, none⟩ _ _ (by show w.heap.size + 5 ≠ w.heap.size + 1; omega))).trans d'
      refine ⟨by simp, .inl ⟨_, _, rfl, run_takeDeferred dR, ?_⟩⟩
      have kR2 := (World.putObj_heap_other (o := .deferred none) (show w.heap.size + 1 ≠ w.heap.size + 5 by omega)).trans kR
      exact ⟨_, results_cell_row rfl _ _ (w.heap.size + 1) 34 #[.int .i64 v, .int .i64 nv] (0, 0) _ rfl kR2 Tryz.underlying34 rfl (by kernel_rfl), by rw [hnv], below_put BR _ (by omega) _⟩
  case refine_2 =>
    go_simp
    refine hK _ _ ?_
    clear hK K
    refine wpAny_ready (rs := [0, 2]) (by kernel_rfl) (by simp) ?_
    refine AllReady.cons rfl (fun K hK => ?_) (AllReady.cons rfl (fun K hK => ?_) AllReady.nil)
    case refine_1 =>
      go_simp
      refine hK _ _ ?_
      clear hK K
      refine wpAny_ready (rs := [2]) (by kernel_rfl) (by simp) ?_
      refine AllReady.cons rfl (fun K hK => ?_) AllReady.nil
      go_simp
      refine hVal.mono ?_
      rintro e w5 ⟨rfl, rfl⟩
      refine hK _ _ ?_
      clear hK K
      refine wpAny_ready (rs := [3]) (by kernel_rfl) (by simp) ?_
      refine AllReady.cons rfl (fun K hK => ?_) AllReady.nil
      go_simp
      refine hCnt.mono ?_
      rintro e w6 ⟨rfl, rfl⟩
      refine hK _ _ ?_
      clear hK K
      refine wpAny_done (by kernel_rfl) ?_ _
      clear hVal hCnt x_0 x_1 y_0 y_1
      gi_wp2
      refine wide_range (gf := 123) (lb := #[.pointer (some ⟨w.heap.size + 4, 0, none⟩), .pointer (some ⟨w.heap.size + 3, 0, none⟩)]) rfl (enters_of Tryz.func123 (by kernel_rfl) rfl) ?_
      intro fn rec hrec W4 hl4 hd4 S4 z4
      have z5 : W4.heap.size = w.heap.size + 7 := by omega
      have bcell : W4.cell? ⟨b, 0, none⟩ = some (.int .i64 v) := S4.cell ((BF.cell (p := ⟨b, 0, none⟩) hbl).trans hc) (by simp)
      have BG : Below w.heap.size w W4 := BF.trans ⟨S4.os, S4.tape, S4.output, S4.size, fun k hk => S4.block k (by omega) (by simp)⟩
      have kG0 := S4.blk kF0 (by simp)
      have kG1 := S4.blk kF1 (by simp)
      have sC := (S4.blk kS3 (by simp)).cell 0
      have bC := (S4.blk kB3 (by simp)).cell 0
      simp at sC bC
      refine (counts_one 6 (w6.heap.size + 1) (w.heap.size + 4) (w.heap.size + 3) (w.heap.size + 2) b cap v cv cn hv hn W4 sC bC bcell (S4.blk kC3 (by simp)) (by omega)
        (fun W' => Blk W' w.heap.size 34 #[.int .i64 v, .int .i64 (agreeI cv cn v)] ∧ Blk W' (w.heap.size + 1) 34 #[.int .i64 0, .int .i64 0] ∧ W'.heap[w6.heap.size + 1]? = some (.loop (rec .ready none)) ∧ W'.heap[w6.heap.size]? = some (.deferred (some [])) ∧ Below w.heap.size w W')
        ?_ ?_).mono ?_
      case refine_1 =>
        rintro A B ⟨h1, h2, h3, h4, h5⟩ hb
        exact ⟨(hb.block _ (by omega)).trans h1, (hb.block _ (by omega)).trans h2, (hb.block _ (by omega)).trans h3, (hb.block _ (by omega)).trans h4, h5.trans (hb.mono (by omega))⟩
      case refine_2 =>
        intro W5 S5
        have hl5 := (S5.block (w6.heap.size + 1) (by omega) (by simp; omega)).trans hl4
        have hd5 := (S5.block w6.heap.size (by omega) (by simp; omega)).trans hd4
        have kH0 := S5.blk kG0 (by simp)
        have kH1 := S5.blk kG1 (by simp)
        have BH : Below w.heap.size w W5 := BG.trans ⟨S5.os, S5.tape, S5.output, S5.size, fun k hk => S5.block k (by omega) (by simp; omega)⟩
        have zz := S5.size
        subst hrec
        refine ⟨fn, _, _, _, run_yield (args := #[.agg #[.int .i64 v, .int .i64 (agreeI cv cn v)]]) hl5 rfl, roundIn_of_wpIn trivial ?_⟩
        have t_0 := kH0.cell 0
        have t_1 := kH0.cell 1
        have f_0 := kH0.frozen 0
        have f_1 := kH0.frozen 1
        simp at t_0 t_1
        generalize agreeI cv cn v = nv at *
        gi_wp2
        have kI0 : Blk ((W5.setCell ⟨w.heap.size, 0, none⟩ (.int .i64 v)).setCell ⟨w.heap.size, 1, none⟩ (.int .i64 nv)) w.heap.size 34 #[.int .i64 v, .int .i64 nv] := by simpa using (kH0.set 0 (.int .i64 v)).set 1 (.int .i64 nv)
        have kIo : ∀ k, k ≠ w.heap.size → ((W5.setCell ⟨w.heap.size, 0, none⟩ (.int .i64 v)).setCell ⟨w.heap.size, 1, none⟩ (.int .i64 nv)).heap[k]? = W5.heap[k]? := fun k hk => (Below.heap_setCell _ ⟨w.heap.size, 1, none⟩ _ k hk).trans (Below.heap_setCell _ ⟨w.heap.size, 0, none⟩ _ k hk)
        have BI : Below w.heap.size w ((W5.setCell ⟨w.heap.size, 0, none⟩ (.int .i64 v)).setCell ⟨w.heap.size, 1, none⟩ (.int .i64 nv)) := (BH.setCell (p := ⟨w.heap.size, 0, none⟩) (Nat.le_refl _) _).setCell (p := ⟨w.heap.size, 1, none⟩) (Nat.le_refl _) _
        have zI : ((W5.setCell ⟨w.heap.size, 0, none⟩ (.int .i64 v)).setCell ⟨w.heap.size, 1, none⟩ (.int .i64 nv)).heap.size = W5.heap.size := by simp
        generalize (W5.setCell ⟨w.heap.size, 0, none⟩ (.int .i64 v)).setCell ⟨w.heap.size, 1, none⟩ (.int .i64 nv) = W6 at *
        have hl6 := (kIo (w6.heap.size + 1) (by omega)).trans hl5
        have hd6 := (kIo w6.heap.size (by omega)).trans hd5
        have kI1 := (kIo (w.heap.size + 1) (by omega)).trans kH1
        refine ⟨_, run_beginRound hl6 rfl, ?_⟩
        gi_wp2
        have hlt6 : w6.heap.size + 1 < W6.heap.size := by omega
        refine ⟨_, _, run_endRound none (World.putObj_heap_same hlt6), rfl, ⟨?_, ?_, World.putObj_heap_same (by simpa using hlt6), ?_, ?_⟩, by simp; omega, ?_⟩
        · exact (World.putObj_heap_other (by omega)).trans ((World.putObj_heap_other (by omega)).trans kI0)
        · exact (World.putObj_heap_other (by omega)).trans ((World.putObj_heap_other (by omega)).trans kI1)
        · exact (World.putObj_heap_other (by omega)).trans ((World.putObj_heap_other (by omega)).trans hd6)
        · exact below_put (below_put BI _ (by omega) _) _ (by omega) _
        · intro k h1 h2
          exact (World.putObj_heap_other (by omega)).trans ((World.putObj_heap_other (by omega)).trans (kIo k (by omega)))
      case refine_3 =>
        rintro e W9 ⟨⟨u, rfl⟩, k0, k1, hl9, hd9, B9⟩
        have hend : (Instr.endLoop (w6.heap.size + 1)).run Tryz.prog W9 = .ok none (W9.putObj (w6.heap.size + 1) (.loop { rec .ready none with state := .exhausted })) := by
          have := run_endLoop (P := Tryz.prog) hl9 (by rw [hrec]; simp)
          rw [this]; rw [hrec]
        refine ⟨none, _, hend, ?_⟩
        have k0' : Blk (W9.putObj (w6.heap.size + 1) (.loop { rec .ready none with state := .exhausted })) w.heap.size 34 #[.int .i64 v, .int .i64 (agreeI cv cn v)] := (World.putObj_heap_other (by omega)).trans k0
        have k1' : Blk (W9.putObj (w6.heap.size + 1) (.loop { rec .ready none with state := .exhausted })) (w.heap.size + 1) 34 #[.int .i64 0, .int .i64 0] := (World.putObj_heap_other (by omega)).trans k1
        have d' : (W9.putObj (w6.heap.size + 1) (.loop { rec .ready none with state := .exhausted })).heap[w6.heap.size]? = some (.deferred (some [])) := (World.putObj_heap_other (by omega)).trans hd9
        have B' := below_put B9 (w6.heap.size + 1) (by omega) (.loop { rec .ready none with state := .exhausted })
        clear hend hl9 hd9 k0 k1 B9 hl4 hd4 S4 kG0 kG1
        generalize World.putObj W9 _ _ = W10 at *
        clear hrec
        rw [zF] at d'
        generalize hnv : agreeI cv cn v = nv at *
        have t_0 := k0'.cell 0
        have t_1 := k0'.cell 1
        have u_0 := k1'.cell 0
        have u_1 := k1'.cell 1
        have f_0 := k1'.frozen 0
        have f_1 := k1'.frozen 1
        simp at t_0 t_1 u_0 u_1
        gi_wp2
        have kR : Blk ((W10.setCell ⟨w.heap.size + 1, 0, none⟩ (.int .i64 v)).setCell ⟨w.heap.size + 1, 1, none⟩ (.int .i64 nv)) (w.heap.size + 1) 34 #[.int .i64 v, .int .i64 nv] := by simpa using (k1'.set 0 (.int .i64 v)).set 1 (.int .i64 nv)
        have BR := (B'.setCell (p := ⟨w.heap.size + 1, 0, none⟩) (Nat.le_succ _) (.int .i64 v)).setCell (p := ⟨w.heap.size + 1, 1, none⟩) (Nat.le_succ _) (.int .i64 nv)
        have dR : ((W10.setCell ⟨w.heap.size + 1, 0, none⟩ (.int .i64 v)).setCell ⟨w.heap.size + 1, 1, none⟩ (.int .i64 nv)).heap[w.heap.size + 5]? = some (.deferred (some [])) := ((Below.heap_setCell _ ⟨w.heap.size + 1, 1, none⟩ _ _ (by show w.heap.size + 5 ≠ w.heap.size + 1; omega)).trans (Below.heap_setCell _ ⟨w.heap.size + 1, 0, none⟩ _ _ (by show w.heap.size + 5 ≠ w.heap.size + 1; omega))).trans d'
        refine ⟨by simp, .inl ⟨_, _, rfl, run_takeDeferred dR, ?_⟩⟩
        have kR2 := (World.putObj_heap_other (o := .deferred none) (show w.heap.size + 1 ≠ w.heap.size + 5 by omega)).trans kR
        exact ⟨_, results_cell_row rfl _ _ (w.heap.size + 1) 34 #[.int .i64 v, .int .i64 nv] (0, 0) _ rfl kR2 Tryz.underlying34 rfl (by kernel_rfl), by rw [hnv], below_put BR _ (by omega) _⟩
    case refine_2 =>
      go_simp
      refine hVal.mono ?_
      rintro e w5 ⟨rfl, rfl⟩
      refine hK _ _ ?_
      clear hK K
      refine wpAny_ready (rs := [0]) (by kernel_rfl) (by simp) ?_
      refine AllReady.cons rfl (fun K hK => ?_) AllReady.nil
      go_simp
      refine hK _ _ ?_
      clear hK K
      refine wpAny_ready (rs := [3]) (by kernel_rfl) (by simp) ?_
      refine AllReady.cons rfl (fun K hK => ?_) AllReady.nil
      go_simp
      refine hCnt.mono ?_
      rintro e w6 ⟨rfl, rfl⟩
      refine hK _ _ ?_
      clear hK K
      refine wpAny_done (by kernel_rfl) ?_ _
      clear hVal hCnt x_0 x_1 y_0 y_1
      gi_wp2
      refine wide_range (gf := 123) (lb := #[.pointer (some ⟨w.heap.size + 4, 0, none⟩), .pointer (some ⟨w.heap.size + 3, 0, none⟩)]) rfl (enters_of Tryz.func123 (by kernel_rfl) rfl) ?_
      intro fn rec hrec W4 hl4 hd4 S4 z4
      have z5 : W4.heap.size = w.heap.size + 7 := by omega
      have bcell : W4.cell? ⟨b, 0, none⟩ = some (.int .i64 v) := S4.cell ((BF.cell (p := ⟨b, 0, none⟩) hbl).trans hc) (by simp)
      have BG : Below w.heap.size w W4 := BF.trans ⟨S4.os, S4.tape, S4.output, S4.size, fun k hk => S4.block k (by omega) (by simp)⟩
      have kG0 := S4.blk kF0 (by simp)
      have kG1 := S4.blk kF1 (by simp)
      have sC := (S4.blk kS3 (by simp)).cell 0
      have bC := (S4.blk kB3 (by simp)).cell 0
      simp at sC bC
      refine (counts_one 6 (w6.heap.size + 1) (w.heap.size + 4) (w.heap.size + 3) (w.heap.size + 2) b cap v cv cn hv hn W4 sC bC bcell (S4.blk kC3 (by simp)) (by omega)
        (fun W' => Blk W' w.heap.size 34 #[.int .i64 v, .int .i64 (agreeI cv cn v)] ∧ Blk W' (w.heap.size + 1) 34 #[.int .i64 0, .int .i64 0] ∧ W'.heap[w6.heap.size + 1]? = some (.loop (rec .ready none)) ∧ W'.heap[w6.heap.size]? = some (.deferred (some [])) ∧ Below w.heap.size w W')
        ?_ ?_).mono ?_
      case refine_1 =>
        rintro A B ⟨h1, h2, h3, h4, h5⟩ hb
        exact ⟨(hb.block _ (by omega)).trans h1, (hb.block _ (by omega)).trans h2, (hb.block _ (by omega)).trans h3, (hb.block _ (by omega)).trans h4, h5.trans (hb.mono (by omega))⟩
      case refine_2 =>
        intro W5 S5
        have hl5 := (S5.block (w6.heap.size + 1) (by omega) (by simp; omega)).trans hl4
        have hd5 := (S5.block w6.heap.size (by omega) (by simp; omega)).trans hd4
        have kH0 := S5.blk kG0 (by simp)
        have kH1 := S5.blk kG1 (by simp)
        have BH : Below w.heap.size w W5 := BG.trans ⟨S5.os, S5.tape, S5.output, S5.size, fun k hk => S5.block k (by omega) (by simp; omega)⟩
        have zz := S5.size
        subst hrec
        refine ⟨fn, _, _, _, run_yield (args := #[.agg #[.int .i64 v, .int .i64 (agreeI cv cn v)]]) hl5 rfl, roundIn_of_wpIn trivial ?_⟩
        have t_0 := kH0.cell 0
        have t_1 := kH0.cell 1
        have f_0 := kH0.frozen 0
        have f_1 := kH0.frozen 1
        simp at t_0 t_1
        generalize agreeI cv cn v = nv at *
        gi_wp2
        have kI0 : Blk ((W5.setCell ⟨w.heap.size, 0, none⟩ (.int .i64 v)).setCell ⟨w.heap.size, 1, none⟩ (.int .i64 nv)) w.heap.size 34 #[.int .i64 v, .int .i64 nv] := by simpa using (kH0.set 0 (.int .i64 v)).set 1 (.int .i64 nv)
        have kIo : ∀ k, k ≠ w.heap.size → ((W5.setCell ⟨w.heap.size, 0, none⟩ (.int .i64 v)).setCell ⟨w.heap.size, 1, none⟩ (.int .i64 nv)).heap[k]? = W5.heap[k]? := fun k hk => (Below.heap_setCell _ ⟨w.heap.size, 1, none⟩ _ k hk).trans (Below.heap_setCell _ ⟨w.heap.size, 0, none⟩ _ k hk)
        have BI : Below w.heap.size w ((W5.setCell ⟨w.heap.size, 0, none⟩ (.int .i64 v)).setCell ⟨w.heap.size, 1, none⟩ (.int .i64 nv)) := (BH.setCell (p := ⟨w.heap.size, 0, none⟩) (Nat.le_refl _) _).setCell (p := ⟨w.heap.size, 1, none⟩) (Nat.le_refl _) _
        have zI : ((W5.setCell ⟨w.heap.size, 0, none⟩ (.int .i64 v)).setCell ⟨w.heap.size, 1, none⟩ (.int .i64 nv)).heap.size = W5.heap.size := by simp
        generalize (W5.setCell ⟨w.heap.size, 0, none⟩ (.int .i64 v)).setCell ⟨w.heap.size, 1, none⟩ (.int .i64 nv) = W6 at *
        have hl6 := (kIo (w6.heap.size + 1) (by omega)).trans hl5
        have hd6 := (kIo w6.heap.size (by omega)).trans hd5
        have kI1 := (kIo (w.heap.size + 1) (by omega)).trans kH1
        refine ⟨_, run_beginRound hl6 rfl, ?_⟩
        gi_wp2
        have hlt6 : w6.heap.size + 1 < W6.heap.size := by omega
        refine ⟨_, _, run_endRound none (World.putObj_heap_same hlt6), rfl, ⟨?_, ?_, World.putObj_heap_same (by simpa using hlt6), ?_, ?_⟩, by simp; omega, ?_⟩
        · exact (World.putObj_heap_other (by omega)).trans ((World.putObj_heap_other (by omega)).trans kI0)
        · exact (World.putObj_heap_other (by omega)).trans ((World.putObj_heap_other (by omega)).trans kI1)
        · exact (World.putObj_heap_other (by omega)).trans ((World.putObj_heap_other (by omega)).trans hd6)
        · exact below_put (below_put BI _ (by omega) _) _ (by omega) _
        · intro k h1 h2
          exact (World.putObj_heap_other (by omega)).trans ((World.putObj_heap_other (by omega)).trans (kIo k (by omega)))
      case refine_3 =>
        rintro e W9 ⟨⟨u, rfl⟩, k0, k1, hl9, hd9, B9⟩
        have hend : (Instr.endLoop (w6.heap.size + 1)).run Tryz.prog W9 = .ok none (W9.putObj (w6.heap.size + 1) (.loop { rec .ready none with state := .exhausted })) := by
          have := run_endLoop (P := Tryz.prog) hl9 (by rw [hrec]; simp)
          rw [this]; rw [hrec]
        refine ⟨none, _, hend, ?_⟩
        have k0' : Blk (W9.putObj (w6.heap.size + 1) (.loop { rec .ready none with state := .exhausted })) w.heap.size 34 #[.int .i64 v, .int .i64 (agreeI cv cn v)] := (World.putObj_heap_other (by omega)).trans k0
        have k1' : Blk (W9.putObj (w6.heap.size + 1) (.loop { rec .ready none with state := .exhausted })) (w.heap.size + 1) 34 #[.int .i64 0, .int .i64 0] := (World.putObj_heap_other (by omega)).trans k1
        have d' : (W9.putObj (w6.heap.size + 1) (.loop { rec .ready none with state := .exhausted })).heap[w6.heap.size]? = some (.deferred (some [])) := (World.putObj_heap_other (by omega)).trans hd9
        have B' := below_put B9 (w6.heap.size + 1) (by omega) (.loop { rec .ready none with state := .exhausted })
        clear hend hl9 hd9 k0 k1 B9 hl4 hd4 S4 kG0 kG1
        generalize World.putObj W9 _ _ = W10 at *
        clear hrec
        rw [zF] at d'
        generalize hnv : agreeI cv cn v = nv at *
        have t_0 := k0'.cell 0
        have t_1 := k0'.cell 1
        have u_0 := k1'.cell 0
        have u_1 := k1'.cell 1
        have f_0 := k1'.frozen 0
        have f_1 := k1'.frozen 1
        simp at t_0 t_1 u_0 u_1
        gi_wp2
        have kR : Blk ((W10.setCell ⟨w.heap.size + 1, 0, none⟩ (.int .i64 v)).setCell ⟨w.heap.size + 1, 1, none⟩ (.int .i64 nv)) (w.heap.size + 1) 34 #[.int .i64 v, .int .i64 nv] := by simpa using (k1'.set 0 (.int .i64 v)).set 1 (.int .i64 nv)
        have BR := (B'.setCell (p := ⟨w.heap.size + 1, 0, none⟩) (Nat.le_succ _) (.int .i64 v)).setCell (p := ⟨w.heap.size + 1, 1, none⟩) (Nat.le_succ _) (.int .i64 nv)
        have dR : ((W10.setCell ⟨w.heap.size + 1, 0, none⟩ (.int .i64 v)).setCell ⟨w.heap.size + 1, 1, none⟩ (.int .i64 nv)).heap[w.heap.size + 5]? = some (.deferred (some [])) := ((Below.heap_setCell _ ⟨w.heap.size + 1, 1, none⟩ _ _ (by show w.heap.size + 5 ≠ w.heap.size + 1; omega)).trans (Below.heap_setCell _ ⟨w.heap.size + 1, 0, none⟩ _ _ (by show w.heap.size + 5 ≠ w.heap.size + 1; omega))).trans d'
        refine ⟨by simp, .inl ⟨_, _, rfl, run_takeDeferred dR, ?_⟩⟩
        have kR2 := (World.putObj_heap_other (o := .deferred none) (show w.heap.size + 1 ≠ w.heap.size + 5 by omega)).trans kR
        exact ⟨_, results_cell_row rfl _ _ (w.heap.size + 1) 34 #[.int .i64 v, .int .i64 nv] (0, 0) _ rfl kR2 Tryz.underlying34 rfl (by kernel_rfl), by rw [hnv], below_put BR _ (by omega) _⟩

theorem Add_one (cv cn v : Int) (hv : v = 1 ∨ v = 2) (hn : 0 ≤ cn ∧ cn ≤ 2) (w : World) :
    Calls Tryz.prog 46 #[.agg #[.int .i64 cv, .int .i64 cn], .int .i64 v] w fun e w' => e = .returned (.agg #[.int .i64 v, .int .i64 (agreeI cv cn v)]) ∧ Below w.heap.size w w' := by
  have hAll := fun (b : Nat) (W : World) (h : W.cell? ⟨b, 0, none⟩ = some (.int .i64 v)) => All_one cv cn v hv hn b 1 W h
  generalize agreeI cv cn v = nv at *
  have k0 := (Blk.new w 34 #[.int .i64 cv, .int .i64 cn]).alloc (.cells #[.int .i64 0, .int .i64 0] 34)
  have k1 := Blk.new (w.alloc (.cells #[.int .i64 cv, .int .i64 cn] 34)) 34 #[.int .i64 0, .int .i64 0]
  rw [World.size_alloc] at k1
  have B0 : Below w.heap.size w ((w.alloc (.cells #[.int .i64 cv, .int .i64 cn] 34)).alloc (.cells #[.int .i64 0, .int .i64 0] 34)) := ((Below.refl _ w).alloc (Nat.le_refl _) _).alloc (by simp) _
  have kS := Blk.new ((w.alloc (.cells #[.int .i64 cv, .int .i64 cn] 34)).alloc (.cells #[.int .i64 0, .int .i64 0] 34)) 3 #[.int .i64 v]
  have k1S := k1.alloc (.cells #[.int .i64 v] 3)
  have BS := B0.alloc B0.size (.cells #[.int .i64 v] 3)
  simp only [World.size_alloc] at kS
  go_enter Tryz.func46, Tryz.ntmps46
  go_wp2_with fail
  generalize World.alloc (World.alloc (World.alloc w _) _) _ = W0 at *
  have hA := hAll (w.heap.size + 1 + 1) W0 ((kS.cell 0).trans (by simp))
  clear hAll k0 k1 B0
  go_wp2_with ((with_reducible refine hA.mono ?_); rintro e w5 ⟨rfl, q5⟩; have k5 := k1S.below q5 k1S.lt; have B5 := bthen BS q5; have u_0 := k5.cell 0; have u_1 := k5.cell 1; have f_0 := k5.frozen 0; have f_1 := k5.frozen 1; simp at u_0 u_1)
  have kR : Blk ((w5.setCell ⟨w.heap.size + 1, 0, none⟩ (.int .i64 v)).setCell ⟨w.heap.size + 1, 1, none⟩ (.int .i64 nv)) (w.heap.size + 1) 34 #[.int .i64 v, .int .i64 nv] := by simpa using (k5.set 0 (.int .i64 v)).set 1 (.int .i64 nv)
  exact bodyPost_ret (v := .agg #[.int .i64 v, .int .i64 nv]) (results_cell_row rfl _ _ (w.heap.size + 1) 34 #[.int .i64 v, .int .i64 nv] (0, 0) _ rfl kR Tryz.underlying34 rfl (by kernel_rfl)) rfl ⟨rfl, (B5.setCell (p := ⟨w.heap.size + 1, 0, none⟩) (Nat.le_succ _) (.int .i64 v)).setCell (p := ⟨w.heap.size + 1, 1, none⟩) (Nat.le_succ _) (.int .i64 nv)⟩

theorem Verdict_any (v n : Int) (hv : v = 1 ∨ v = 2) (w : World) : Calls Tryz.prog 48 #[.agg #[.int .i64 v, .int .i64 n]] w fun e w' => e = .returned (.int .i64 (if n < 3 then 0 else v)) ∧ Below w.heap.size w w' := by
  have hS := says_any v
  have hb : (v == 1 || v == 2) = true := by rcases hv with rfl | rfl <;> rfl
  rw [hb] at hS
  clear hb hv
  have B0 : Below w.heap.size w (w.alloc (.cells #[.int .i64 v, .int .i64 n] 34)) := (Below.refl _ w).alloc (Nat.le_refl _) _
  by_cases h : n < 3
  · rw [if_pos h]
    go_enter Tryz.func48, Tryz.ntmps48
    go_wp2
    go_ret
    exact ⟨rfl, B0⟩
  · rw [if_neg h]
    go_enter Tryz.func48, Tryz.ntmps48
    go_wp2_with ((with_reducible refine (hS _).mono ?_); rintro e w5 ⟨rfl, rfl⟩)
    go_ret
    exact ⟨rfl, B0⟩
end Go.Proofs.YtebkeocpojlepaaGreatDoor
