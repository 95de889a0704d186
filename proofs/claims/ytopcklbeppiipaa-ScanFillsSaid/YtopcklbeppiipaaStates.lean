/- bank.States: the states of a bank's slots. -/
import Derived.Test.YtopcklbeppiipaaBankS
namespace Go.Proofs.Ytopcklbeppiipaa
open Go.RowKit Go.Shelf
attribute [local go_sem] Oper.semAt_some
set_option linter.unusedVariables false

/-- whole numbers as cells; a slice value that owns them -/
def icells (l : List Int) : List Value := l.map fun n => Value.int .i64 n
def OwnsI (w : World) (base : Nat) (v : Value) (l : List Int) : Prop := w.ownsRow base 3 1 v l.length (icells l)
theorem infoI : (Try.prog.info? 3).map (fun i => (i.zero, i.size, i.bytes)) = some (some (.int .i64 0), 1, 8) := by kernel_rfl

/-- the states of the places so far, but for the header's -/
def statesP (s : ByteArray) (pre : List (Fin (placeN s))) : List Int := (pre.filter (fun j => decide (0 < j.1))).map (fun j => stateP (j.1 : Int) (place s j.1))
def statesL (s : ByteArray) : List Int := statesP s (ups (placeN s) (placeN s))

theorem statesP_snoc (s : ByteArray) (pre : List (Fin (placeN s))) (x : Fin (placeN s)) (h : 0 < x.1) : statesP s (pre ++ [x]) = statesP s pre ++ [stateP (x.1 : Int) (place s x.1)] := by
  unfold statesP; rw [List.filter_append, List.map_append]; simp [h]
theorem statesP_zero (s : ByteArray) (pre : List (Fin (placeN s))) (x : Fin (placeN s)) (h : x.1 = 0) : statesP s (pre ++ [x]) = statesP s pre := by
  unfold statesP; rw [List.filter_append, List.map_append]; simp [h]
theorem statesP_len (s : ByteArray) (pre : List (Fin (placeN s))) : (statesP s pre).length ≤ pre.length := by
  unfold statesP; rw [List.length_map]; exact List.length_filter_le _ _

theorem icells_snoc (l : List Int) (b : Int) : icells (l ++ [b]) = icells l ++ [Value.int .i64 b] := by simp [icells]
theorem OwnsI.base_le {w : World} {base : Nat} {v : Value} {l : List Int} (h : OwnsI w base v l) : ∀ k, v.ownBlock = some k → base ≤ k := by
  intro k hk
  obtain ⟨_, h2⟩ := h
  rcases h2 with ⟨rfl, _⟩ | ⟨g, cap, cur, rfl, hg, _⟩
  · simp [Value.ownBlock] at hk
  · simp [Value.ownBlock] at hk; omega
theorem OwnsI.of_block {w w' : World} {base : Nat} {v : Value} {l : List Int} (h : OwnsI w base v l) (hb : ∀ (g : Nat) (cur : Array Value), base ≤ g → w.heap[g]? = some (.cells cur 3 (0, 0)) → w'.heap[g]? = w.heap[g]?) : OwnsI w' base v l := by
  obtain ⟨h1, h2⟩ := h
  refine ⟨h1, ?_⟩
  rcases h2 with h2 | ⟨g, cap, cur, hv, hg, hh, r⟩
  · exact .inl h2
  · exact .inr ⟨g, cap, cur, hv, hg, by rw [hb g cur hg hh]; exact hh, r⟩
theorem OwnsI.keeps {w w' : World} {base : Nat} {v : Value} {l : List Int} {row : Option Nat} (h : OwnsI w base v l) (hg : w.grownBy w' row) (hr : ∀ r, row = some r → ∃ o : Obj, w.heap[r]? = some o ∧ o.isCells = false) : OwnsI w' base v l :=
  h.of_block fun g cur _ hh => hg.block g (Array.getElem?_eq_some_iff.1 hh).1 (fun e => by
    obtain ⟨o, ho, hc⟩ := hr g e.symm
    rw [hh] at ho
    cases ho
    simp [Obj.isCells] at hc)
theorem OwnsI.below {w w' : World} {base : Nat} {v : Value} {l : List Int} (h : OwnsI w base v l) (hb : Below w.heap.size w w') : OwnsI w' base v l :=
  h.of_block fun g cur _ hh => hb.block g (Array.getElem?_eq_some_iff.1 hh).1
theorem OwnsI.base {w : World} {b c : Nat} {v : Value} {l : List Int} (h : OwnsI w b v l) (hc : c ≤ b) : OwnsI w c v l := by
  obtain ⟨h1, h2⟩ := h
  refine ⟨h1, ?_⟩
  rcases h2 with h2 | ⟨g, cap, cur, hv, hg, r⟩
  · exact .inl h2
  · exact .inr ⟨g, cap, cur, hv, by omega, r⟩
theorem OwnsI.slice {w : World} {base : Nat} {v : Value} {l : List Int} (h : OwnsI w base v l) : ∃ p n c, v = .slice p n c := by
  obtain ⟨_, h2⟩ := h
  rcases h2 with ⟨rfl, _⟩ | ⟨g, cap, cur, rfl, _⟩ <;> exact ⟨_, _, _, rfl⟩
theorem OwnsI.other {w : World} {base : Nat} {v : Value} {l : List Int} (h : OwnsI w base v l) (p : Addr) (hp : p.block < base) (u : Value) : OwnsI (w.setCell p u) base v l :=
  h.of_block fun g cur hg _ => Below.heap_setCell w p u g (by omega)

theorem step_appendIn {F : Fence} {n : Nat} {ops : Array Oper} {o : Oper} {a : Act} {w : World} {K : Act → World → Prop} {Q : Exit → Act → World → Prop} {E : Prop}
    (hg : o.guard = none) (s x : Operand) (hop : o.op = Op.call { callee := Callee.builtin Builtin.append, args := #[s, x], argTypes := #[42, 42] })
    {base : Nat} {v : Value} {l : List Int} {b : Int} {g : Nat} (hs : a.eval s = v) (hx : a.eval x = .slice (some ⟨g, 0, none⟩) 1 1)
    (hown : OwnsI w base v l) (hc : w.cell? ⟨g, 0, none⟩ = some (.int .i64 b)) (hlen : l.length ≤ 1000) (hbase : base ≤ w.heap.size)
    (hK : ∀ v' w', OwnsI w' base v' (l ++ [b]) → KeepsOthers w w' → Below base w w' → K (a.put o.dst v') w') :
    if Region.wanted o (yielded ops a.tmps) = true then Oper.wpIn F n Try.prog o a w K Q else E := by
  have hw : Region.wanted o (yielded ops a.tmps) = true := by simp [Region.wanted, hg]
  rw [if_pos hw]
  obtain ⟨i0, hi, hz0, hz1, hz2⟩ := info_parts infoI
  obtain ⟨v', w', hrun, r1, r2, r3⟩ := run_append_own (P := Try.prog) w base 42 o.type 3 i0 (.int .i64 0) 1 8 Try.underlying42 hi hz0 hz1 hz2 rfl (by decide) v l.length (icells l) hown ⟨g, 0, none⟩ 1 1 [.int .i64 b] rfl
    (by intro j u hj; match j, hj with
        | 0, hj => simp at hj; subst hj; simpa [Addr.add] using hc
        | j + 1, hj => simp at hj) (by intro u hu; simp at hu; subst hu; rfl) (by unfold maxLen; omega) (by omega) hbase
  unfold Oper.wpIn
  refine ⟨?_, ?_⟩
  · simp [Oper.about, hop, resolve, Target.leads, Sem.run_pure]
  · rw [Oper.semAt_plain F _ _ (by rw [hop]; intro c hc'; cases hc')]
    simp [execOp, hop, resolve, invoke, builtin, hs, hx, hrun, Result.andThen]
    refine hK v' w' (by unfold OwnsI; rw [icells_snoc]; simpa using r1) (KeepsOthers.of_grownBy r2 ?_) ((Below.refl base w).grown r2 hbase (fun k e => OwnsI.base_le hown k e))
    intro j o' e ho'
    obtain ⟨_, h2⟩ := hown
    rcases h2 with ⟨rfl, _⟩ | ⟨g', cap, cur, rfl, _, hh, _⟩
    · simp [Value.ownBlock] at e
    · simp [Value.ownBlock] at e
      subst e
      rw [hh] at ho'
      cases ho'; rfl

set_option maxRecDepth 100000 in
set_option maxHeartbeats 8000000 in
theorem States_in (n : Nat) (hn : 4 ≤ n) (s : ByteArray) (hs : s.size ≤ maxLen) (w : World) :
    CallsIn Fence.wide n Try.prog 19 #[.string s] w fun e w' => ∃ v, e = .returned v ∧ OwnsI w' w.heap.size v (statesL s) ∧ Below w.heap.size w w' := by
  have h1 : 1 ≤ n := by omega
  refine callsIn_of_wp_marks Try.func19 rfl trivial ?_ rfl
  simp only [Try.ntmps19, List.size_toArray, List.length_cons, List.length_nil, Nat.reduceAdd, Nat.reduceSub, Array.replicate_succ, Array.replicate_zero, List.push_toArray, List.append_toArray, List.nil_append, List.cons_append]
  gi_wp2_with (refine ⟨trivial, ?_⟩; refine (places_in (n - 1) s _).mono ?_; rintro e w' ⟨rfl, rfl⟩)
  have b0 := (Blk.new w 42 #[.slice none 0 0]).alloc (.cells #[.string s] 9)
  have b1 := Blk.new (w.alloc (.cells #[.slice none 0 0] 42)) 9 #[.string s]
  have hB2 : Below w.heap.size w ((w.alloc (.cells #[.slice none 0 0] 42)).alloc (.cells #[.string s] 9)) := ((Below.refl _ w).alloc (Nat.le_refl _) _).alloc (by simp) _
  have hsz : ((w.alloc (.cells #[.slice none 0 0] 42)).alloc (.cells #[.string s] 9)).heap.size = w.heap.size + 2 := by simp
  rw [World.size_alloc] at b1
  generalize (w.alloc (.cells #[.slice none 0 0] 42)).alloc (.cells #[.string s] 9) = W0 at *
  refine wpIn_rangeFunc_ownH rfl h1 (gf := 39) (lb := #[.pointer (some ⟨w.heap.size + 1, 0, none⟩)]) rfl trivial (enters_of Try.func39 (by kernel_rfl) rfl)
    (places_stops (n - 1) (by omega) (w.heap.size + 1) (w.heap.size + 1) (w.heap.size + 2) s W0 hs (by omega) (by omega) (b1.cell 0))
    (fun h k => Mid.trans h k) (midK_b (by omega)) (Below.refl _ _) (fun _ => rfl)
    (fun pre W => (∃ v, Blk W w.heap.size 42 #[v] ∧ OwnsI W (w.heap.size + 2) v (statesP s pre)) ∧ (Below w.heap.size w W ∧ w.heap.size + 2 ≤ W.heap.size))
    (fun _ _ _ => False)
    ?hI
    (fun _ _ _ _ _ hs _ _ => hs)
    ⟨⟨_, b0, World.ownsRow_nil _ _ _ 1⟩, hB2, by omega⟩
    (fun x a' W => a' = { tmps := #[.string s, undef, .pointer (some ⟨w.heap.size, 0, none⟩), .int .i64 (x.1 : Int), .string (place s x.1), .string s, .func (.func 39) #[] #[.pointer (some ⟨w.heap.size + 1, 0, none⟩)], .int .i64 (x.1 : Int), .string (place s x.1), undef, undef, undef, undef, undef, undef, undef, undef, undef], defers := [] })
    (fun x a' _ X Y row hs hg hr => hs)
    ?assign ?body ?done ?stop
  case hI =>
    refine OwnFrom.and ?_ (OwnFrom.and (ownFrom_below (Nat.le_refl _) (by omega)) (fun _ _ _ _ hs hg _ => Nat.le_trans hs hg.size))
    intro pre A B row hs hg hr
    obtain ⟨v, h1, h2⟩ := hs
    exact ⟨v, blk_own w.heap.size 42 (fun (_ : Unit) => #[v]) () A B row h1 hg (fun r e => (hr r e).2), h2.keeps hg (fun r e => (hr r e).2)⟩
  case assign =>
    rintro l pre x W K ⟨hV, hB1, hW2⟩ hK
    gi_wp2
    exact hK _ _ ((KeepsOthers.refl W).from _) (Mid.refl _ _ W) ⟨hV, hB1, hW2⟩ rfl
  case body =>
    rintro l pre x a' W hl ⟨r, hr⟩ ⟨⟨v, bV, hown⟩, hB1, hW2⟩ rfl hlt
    have cV := bV.cell 0
    have fV := bV.frozen 0
    by_cases hx : 0 < x.1
    · have h2 := state_any (x.1 : Int) (place s x.1) (by unfold place maxLen; rw [ByteArray.size_extract]; omega)
      obtain ⟨R, hR⟩ : ∃ R, R = stateP (x.1 : Int) (place s x.1) := ⟨_, rfl⟩
      rw [← hR] at h2
      have hll : (statesP s pre).length ≤ 20 := by
        have := statesP_len s pre
        by_cases h0 : 0 < placeN s
        · have := (placeN_pos h0).2.2; omega
        · omega
      have HR := Lib.hid hR
      clear hR
      have lV := bV.lt
      gi_wp2
      refine wpIn_region_any (by kernel_rfl) ?_
      try (change wpAnyIn _ _ _ _ _ _ _ _ _ (World.drew _))
      refine wpAnyIn_ready (rs := [0, 1, 2]) (by kernel_rfl) (by simp) ?_
      refine AllReadyIn.cons rfl (fun K hK => ?_) ?_
      ·
        go_simp
        refine hK _ _ ?_
        clear hK K
        refine wpAnyIn_ready (rs := [1, 2]) (by kernel_rfl) (by simp) ?_
        refine AllReadyIn.cons rfl (fun K hK => ?_) ?_
        ·
          go_simp
          refine hK _ _ ?_
          clear hK K
          refine wpAnyIn_ready (rs := [2]) (by kernel_rfl) (by simp) ?_
          refine AllReadyIn.cons rfl (fun K hK => ?_) ?_
          ·
            go_simp
            refine hK _ _ ?_
            clear hK K
            refine wpAnyIn_ready (rs := [3]) (by kernel_rfl) (by simp) ?_
            refine AllReadyIn.cons rfl (fun K hK => ?_) ?_
            ·
              go_simp
              gi_wp2_with (refine ⟨trivial, (fun h => by cases h), ?_⟩; refine (CallsIn.inRound l (callsIn_wide.2 (h2 _))).mono ?_; rintro e w5 ⟨rfl, b5⟩)
              (try (refine hK _ _ ?_; clear hK K))
              have bV5 : Blk w5 w.heap.size 42 #[v] := bV.drew.below b5 lV
              have c5 : w5.cell? ⟨w.heap.size, 0, none⟩ = some v := bV5.cell 0
              have c5a : ∀ o, (w5.alloc o).cell? ⟨w.heap.size, 0, none⟩ = some v := fun o => (bV5.alloc o).cell 0
              have own5 : OwnsI w5 (w.heap.size + 2) v (statesP s pre) := OwnsI.below (w := W.drew) hown b5
              have hz5 : W.heap.size ≤ w5.heap.size := b5.size
              refine wpAnyIn_ready (rs := [4]) (by kernel_rfl) (by simp) ?_
              refine AllReadyIn.cons rfl (fun K hK => ?_) ?_
              ·
                go_simp
                refine hK _ _ ?_
                clear hK K
                refine wpAnyIn_ready (rs := [5]) (by kernel_rfl) (by simp) ?_
                refine AllReadyIn.cons rfl (fun K hK => ?_) ?_
                ·
                  refine step_appendIn (b := R) (by rfl) _ _ (by rfl) (by rfl) (by rfl) (own5.below ((Below.refl _ w5).alloc (Nat.le_refl _) _)) (by simp) (by omega) (by simp; omega) ?_
                  intro v7 w7 own7 ko7 b7
                  obtain ⟨p7, m7, q7, rfl⟩ := own7.slice
                  refine hK _ _ ?_
                  clear hK K
                  have bV7 : Blk w7 w.heap.size 42 #[v] := (bV5.alloc (.cells #[.int .i64 R] 3)).below b7 (by omega)
                  have c7 : w7.cell? ⟨w.heap.size, 0, none⟩ = some v := bV7.cell 0
                  have f7 : w7.frozen? ⟨w.heap.size, 0, none⟩ = false := bV7.frozen 0
                  have hz7 : w5.heap.size + 1 ≤ w7.heap.size := by have := b7.size; simpa using this
                  refine wpAnyIn_ready (rs := [6]) (by kernel_rfl) (by simp) ?_
                  refine AllReadyIn.cons rfl (fun K hK => ?_) ?_
                  ·
                    go_simp
                    refine hK _ _ ?_
                    clear hK K
                    refine wpAnyIn_done (by kernel_rfl) ?_ _
                    gi_wp2
                    refine ⟨((((KeepsOthers.drew W).trans (KeepsOthers.of_grownBy (grown_of_below b5) (fun _ _ e => by cases e))).trans (KeepsOthers.alloc w5 (.cells #[.int .i64 R] 3))).trans (ko7.trans (KeepsOthers.setCell w7 ⟨w.heap.size, 0, none⟩ (.slice p7 m7 q7)))).from _, ?_, ⟨.slice p7 m7 q7, bV7.set 0 (.slice p7 m7 q7), ?_⟩, ?_, ?_⟩
                    · exact Mid.setCell ((((Mid.of_below (Below.refl _ W).drew (by omega)).trans (Mid.of_below b5 (by show _ ≤ W.heap.size; omega))).trans (Mid.of_below ((Below.refl _ w5).alloc (Nat.le_refl _) _) (by omega))).trans (Mid.of_below b7 (Nat.le_refl _))) _ (by simp) _
                    · rw [statesP_snoc s pre x hx, ← HR.out]; exact own7.other _ (by show w.heap.size < _; omega) _
                    · exact (((hB1.drew.trans (b5.mono hB1.size)).alloc (by omega) _).trans (b7.mono (by omega))).setCell (p := ⟨w.heap.size, 0, none⟩) (Nat.le_refl _) _
                    · rw [World.size_setCell]; omega
                  exact AllReadyIn.nil
                exact AllReadyIn.nil
              exact AllReadyIn.nil
            exact AllReadyIn.nil
          exact AllReadyIn.nil
        refine AllReadyIn.cons rfl (fun K hK => ?_) ?_
        ·
          go_simp
          refine hK _ _ ?_
          clear hK K
          refine wpAnyIn_ready (rs := [1]) (by kernel_rfl) (by simp) ?_
          refine AllReadyIn.cons rfl (fun K hK => ?_) ?_
          ·
            go_simp
            refine hK _ _ ?_
            clear hK K
            refine wpAnyIn_ready (rs := [3]) (by kernel_rfl) (by simp) ?_
            refine AllReadyIn.cons rfl (fun K hK => ?_) ?_
            ·
              go_simp
              gi_wp2_with (refine ⟨trivial, (fun h => by cases h), ?_⟩; refine (CallsIn.inRound l (callsIn_wide.2 (h2 _))).mono ?_; rintro e w5 ⟨rfl, b5⟩)
              (try (refine hK _ _ ?_; clear hK K))
              have bV5 : Blk w5 w.heap.size 42 #[v] := bV.drew.below b5 lV
              have c5 : w5.cell? ⟨w.heap.size, 0, none⟩ = some v := bV5.cell 0
              have c5a : ∀ o, (w5.alloc o).cell? ⟨w.heap.size, 0, none⟩ = some v := fun o => (bV5.alloc o).cell 0
              have own5 : OwnsI w5 (w.heap.size + 2) v (statesP s pre) := OwnsI.below (w := W.drew) hown b5
              have hz5 : W.heap.size ≤ w5.heap.size := b5.size
              refine wpAnyIn_ready (rs := [4]) (by kernel_rfl) (by simp) ?_
              refine AllReadyIn.cons rfl (fun K hK => ?_) ?_
              ·
                go_simp
                refine hK _ _ ?_
                clear hK K
                refine wpAnyIn_ready (rs := [5]) (by kernel_rfl) (by simp) ?_
                refine AllReadyIn.cons rfl (fun K hK => ?_) ?_
                ·
                  refine step_appendIn (b := R) (by rfl) _ _ (by rfl) (by rfl) (by rfl) (own5.below ((Below.refl _ w5).alloc (Nat.le_refl _) _)) (by simp) (by omega) (by simp; omega) ?_
                  intro v7 w7 own7 ko7 b7
                  obtain ⟨p7, m7, q7, rfl⟩ := own7.slice
                  refine hK _ _ ?_
                  clear hK K
                  have bV7 : Blk w7 w.heap.size 42 #[v] := (bV5.alloc (.cells #[.int .i64 R] 3)).below b7 (by omega)
                  have c7 : w7.cell? ⟨w.heap.size, 0, none⟩ = some v := bV7.cell 0
                  have f7 : w7.frozen? ⟨w.heap.size, 0, none⟩ = false := bV7.frozen 0
                  have hz7 : w5.heap.size + 1 ≤ w7.heap.size := by have := b7.size; simpa using this
                  refine wpAnyIn_ready (rs := [6]) (by kernel_rfl) (by simp) ?_
                  refine AllReadyIn.cons rfl (fun K hK => ?_) ?_
                  ·
                    go_simp
                    refine hK _ _ ?_
                    clear hK K
                    refine wpAnyIn_done (by kernel_rfl) ?_ _
                    gi_wp2
                    refine ⟨((((KeepsOthers.drew W).trans (KeepsOthers.of_grownBy (grown_of_below b5) (fun _ _ e => by cases e))).trans (KeepsOthers.alloc w5 (.cells #[.int .i64 R] 3))).trans (ko7.trans (KeepsOthers.setCell w7 ⟨w.heap.size, 0, none⟩ (.slice p7 m7 q7)))).from _, ?_, ⟨.slice p7 m7 q7, bV7.set 0 (.slice p7 m7 q7), ?_⟩, ?_, ?_⟩
                    · exact Mid.setCell ((((Mid.of_below (Below.refl _ W).drew (by omega)).trans (Mid.of_below b5 (by show _ ≤ W.heap.size; omega))).trans (Mid.of_below ((Below.refl _ w5).alloc (Nat.le_refl _) _) (by omega))).trans (Mid.of_below b7 (Nat.le_refl _))) _ (by simp) _
                    · rw [statesP_snoc s pre x hx, ← HR.out]; exact own7.other _ (by show w.heap.size < _; omega) _
                    · exact (((hB1.drew.trans (b5.mono hB1.size)).alloc (by omega) _).trans (b7.mono (by omega))).setCell (p := ⟨w.heap.size, 0, none⟩) (Nat.le_refl _) _
                    · rw [World.size_setCell]; omega
                  exact AllReadyIn.nil
                exact AllReadyIn.nil
              exact AllReadyIn.nil
            exact AllReadyIn.nil
          exact AllReadyIn.nil
        exact AllReadyIn.nil
      refine AllReadyIn.cons rfl (fun K hK => ?_) ?_
      ·
        go_simp
        refine hK _ _ ?_
        clear hK K
        refine wpAnyIn_ready (rs := [0, 2]) (by kernel_rfl) (by simp) ?_
        refine AllReadyIn.cons rfl (fun K hK => ?_) ?_
        ·
          go_simp
          refine hK _ _ ?_
          clear hK K
          refine wpAnyIn_ready (rs := [2]) (by kernel_rfl) (by simp) ?_
          refine AllReadyIn.cons rfl (fun K hK => ?_) ?_
          ·
            go_simp
            refine hK _ _ ?_
            clear hK K
            refine wpAnyIn_ready (rs := [3]) (by kernel_rfl) (by simp) ?_
            refine AllReadyIn.cons rfl (fun K hK => ?_) ?_
            ·
              go_simp
              gi_wp2_with (refine ⟨trivial, (fun h => by cases h), ?_⟩; refine (CallsIn.inRound l (callsIn_wide.2 (h2 _))).mono ?_; rintro e w5 ⟨rfl, b5⟩)
              (try (refine hK _ _ ?_; clear hK K))
              have bV5 : Blk w5 w.heap.size 42 #[v] := bV.drew.below b5 lV
              have c5 : w5.cell? ⟨w.heap.size, 0, none⟩ = some v := bV5.cell 0
              have c5a : ∀ o, (w5.alloc o).cell? ⟨w.heap.size, 0, none⟩ = some v := fun o => (bV5.alloc o).cell 0
              have own5 : OwnsI w5 (w.heap.size + 2) v (statesP s pre) := OwnsI.below (w := W.drew) hown b5
              have hz5 : W.heap.size ≤ w5.heap.size := b5.size
              refine wpAnyIn_ready (rs := [4]) (by kernel_rfl) (by simp) ?_
              refine AllReadyIn.cons rfl (fun K hK => ?_) ?_
              ·
                go_simp
                refine hK _ _ ?_
                clear hK K
                refine wpAnyIn_ready (rs := [5]) (by kernel_rfl) (by simp) ?_
                refine AllReadyIn.cons rfl (fun K hK => ?_) ?_
                ·
                  refine step_appendIn (b := R) (by rfl) _ _ (by rfl) (by rfl) (by rfl) (own5.below ((Below.refl _ w5).alloc (Nat.le_refl _) _)) (by simp) (by omega) (by simp; omega) ?_
                  intro v7 w7 own7 ko7 b7
                  obtain ⟨p7, m7, q7, rfl⟩ := own7.slice
                  refine hK _ _ ?_
                  clear hK K
                  have bV7 : Blk w7 w.heap.size 42 #[v] := (bV5.alloc (.cells #[.int .i64 R] 3)).below b7 (by omega)
                  have c7 : w7.cell? ⟨w.heap.size, 0, none⟩ = some v := bV7.cell 0
                  have f7 : w7.frozen? ⟨w.heap.size, 0, none⟩ = false := bV7.frozen 0
                  have hz7 : w5.heap.size + 1 ≤ w7.heap.size := by have := b7.size; simpa using this
                  refine wpAnyIn_ready (rs := [6]) (by kernel_rfl) (by simp) ?_
                  refine AllReadyIn.cons rfl (fun K hK => ?_) ?_
                  ·
                    go_simp
                    refine hK _ _ ?_
                    clear hK K
                    refine wpAnyIn_done (by kernel_rfl) ?_ _
                    gi_wp2
                    refine ⟨((((KeepsOthers.drew W).trans (KeepsOthers.of_grownBy (grown_of_below b5) (fun _ _ e => by cases e))).trans (KeepsOthers.alloc w5 (.cells #[.int .i64 R] 3))).trans (ko7.trans (KeepsOthers.setCell w7 ⟨w.heap.size, 0, none⟩ (.slice p7 m7 q7)))).from _, ?_, ⟨.slice p7 m7 q7, bV7.set 0 (.slice p7 m7 q7), ?_⟩, ?_, ?_⟩
                    · exact Mid.setCell ((((Mid.of_below (Below.refl _ W).drew (by omega)).trans (Mid.of_below b5 (by show _ ≤ W.heap.size; omega))).trans (Mid.of_below ((Below.refl _ w5).alloc (Nat.le_refl _) _) (by omega))).trans (Mid.of_below b7 (Nat.le_refl _))) _ (by simp) _
                    · rw [statesP_snoc s pre x hx, ← HR.out]; exact own7.other _ (by show w.heap.size < _; omega) _
                    · exact (((hB1.drew.trans (b5.mono hB1.size)).alloc (by omega) _).trans (b7.mono (by omega))).setCell (p := ⟨w.heap.size, 0, none⟩) (Nat.le_refl _) _
                    · rw [World.size_setCell]; omega
                  exact AllReadyIn.nil
                exact AllReadyIn.nil
              exact AllReadyIn.nil
            exact AllReadyIn.nil
          exact AllReadyIn.nil
        refine AllReadyIn.cons rfl (fun K hK => ?_) ?_
        ·
          go_simp
          refine hK _ _ ?_
          clear hK K
          refine wpAnyIn_ready (rs := [0, 3]) (by kernel_rfl) (by simp) ?_
          refine AllReadyIn.cons rfl (fun K hK => ?_) ?_
          ·
            go_simp
            refine hK _ _ ?_
            clear hK K
            refine wpAnyIn_ready (rs := [3]) (by kernel_rfl) (by simp) ?_
            refine AllReadyIn.cons rfl (fun K hK => ?_) ?_
            ·
              go_simp
              gi_wp2_with (refine ⟨trivial, (fun h => by cases h), ?_⟩; refine (CallsIn.inRound l (callsIn_wide.2 (h2 _))).mono ?_; rintro e w5 ⟨rfl, b5⟩)
              (try (refine hK _ _ ?_; clear hK K))
              have bV5 : Blk w5 w.heap.size 42 #[v] := bV.drew.below b5 lV
              have c5 : w5.cell? ⟨w.heap.size, 0, none⟩ = some v := bV5.cell 0
              have c5a : ∀ o, (w5.alloc o).cell? ⟨w.heap.size, 0, none⟩ = some v := fun o => (bV5.alloc o).cell 0
              have own5 : OwnsI w5 (w.heap.size + 2) v (statesP s pre) := OwnsI.below (w := W.drew) hown b5
              have hz5 : W.heap.size ≤ w5.heap.size := b5.size
              refine wpAnyIn_ready (rs := [4]) (by kernel_rfl) (by simp) ?_
              refine AllReadyIn.cons rfl (fun K hK => ?_) ?_
              ·
                go_simp
                refine hK _ _ ?_
                clear hK K
                refine wpAnyIn_ready (rs := [5]) (by kernel_rfl) (by simp) ?_
                refine AllReadyIn.cons rfl (fun K hK => ?_) ?_
                ·
                  refine step_appendIn (b := R) (by rfl) _ _ (by rfl) (by rfl) (by rfl) (own5.below ((Below.refl _ w5).alloc (Nat.le_refl _) _)) (by simp) (by omega) (by simp; omega) ?_
                  intro v7 w7 own7 ko7 b7
                  obtain ⟨p7, m7, q7, rfl⟩ := own7.slice
                  refine hK _ _ ?_
                  clear hK K
                  have bV7 : Blk w7 w.heap.size 42 #[v] := (bV5.alloc (.cells #[.int .i64 R] 3)).below b7 (by omega)
                  have c7 : w7.cell? ⟨w.heap.size, 0, none⟩ = some v := bV7.cell 0
                  have f7 : w7.frozen? ⟨w.heap.size, 0, none⟩ = false := bV7.frozen 0
                  have hz7 : w5.heap.size + 1 ≤ w7.heap.size := by have := b7.size; simpa using this
                  refine wpAnyIn_ready (rs := [6]) (by kernel_rfl) (by simp) ?_
                  refine AllReadyIn.cons rfl (fun K hK => ?_) ?_
                  ·
                    go_simp
                    refine hK _ _ ?_
                    clear hK K
                    refine wpAnyIn_done (by kernel_rfl) ?_ _
                    gi_wp2
                    refine ⟨((((KeepsOthers.drew W).trans (KeepsOthers.of_grownBy (grown_of_below b5) (fun _ _ e => by cases e))).trans (KeepsOthers.alloc w5 (.cells #[.int .i64 R] 3))).trans (ko7.trans (KeepsOthers.setCell w7 ⟨w.heap.size, 0, none⟩ (.slice p7 m7 q7)))).from _, ?_, ⟨.slice p7 m7 q7, bV7.set 0 (.slice p7 m7 q7), ?_⟩, ?_, ?_⟩
                    · exact Mid.setCell ((((Mid.of_below (Below.refl _ W).drew (by omega)).trans (Mid.of_below b5 (by show _ ≤ W.heap.size; omega))).trans (Mid.of_below ((Below.refl _ w5).alloc (Nat.le_refl _) _) (by omega))).trans (Mid.of_below b7 (Nat.le_refl _))) _ (by simp) _
                    · rw [statesP_snoc s pre x hx, ← HR.out]; exact own7.other _ (by show w.heap.size < _; omega) _
                    · exact (((hB1.drew.trans (b5.mono hB1.size)).alloc (by omega) _).trans (b7.mono (by omega))).setCell (p := ⟨w.heap.size, 0, none⟩) (Nat.le_refl _) _
                    · rw [World.size_setCell]; omega
                  exact AllReadyIn.nil
                exact AllReadyIn.nil
              exact AllReadyIn.nil
            exact AllReadyIn.nil
          refine AllReadyIn.cons rfl (fun K hK => ?_) ?_
          ·
            go_simp
            gi_wp2_with (refine ⟨trivial, (fun h => by cases h), ?_⟩; refine (CallsIn.inRound l (callsIn_wide.2 (h2 _))).mono ?_; rintro e w5 ⟨rfl, b5⟩)
            (try (refine hK _ _ ?_; clear hK K))
            have bV5 : Blk w5 w.heap.size 42 #[v] := bV.drew.below b5 lV
            have c5 : w5.cell? ⟨w.heap.size, 0, none⟩ = some v := bV5.cell 0
            have c5a : ∀ o, (w5.alloc o).cell? ⟨w.heap.size, 0, none⟩ = some v := fun o => (bV5.alloc o).cell 0
            have own5 : OwnsI w5 (w.heap.size + 2) v (statesP s pre) := OwnsI.below (w := W.drew) hown b5
            have hz5 : W.heap.size ≤ w5.heap.size := b5.size
            refine wpAnyIn_ready (rs := [0, 4]) (by kernel_rfl) (by simp) ?_
            refine AllReadyIn.cons rfl (fun K hK => ?_) ?_
            ·
              go_simp
              refine hK _ _ ?_
              clear hK K
              refine wpAnyIn_ready (rs := [4]) (by kernel_rfl) (by simp) ?_
              refine AllReadyIn.cons rfl (fun K hK => ?_) ?_
              ·
                go_simp
                refine hK _ _ ?_
                clear hK K
                refine wpAnyIn_ready (rs := [5]) (by kernel_rfl) (by simp) ?_
                refine AllReadyIn.cons rfl (fun K hK => ?_) ?_
                ·
                  refine step_appendIn (b := R) (by rfl) _ _ (by rfl) (by rfl) (by rfl) (own5.below ((Below.refl _ w5).alloc (Nat.le_refl _) _)) (by simp) (by omega) (by simp; omega) ?_
                  intro v7 w7 own7 ko7 b7
                  obtain ⟨p7, m7, q7, rfl⟩ := own7.slice
                  refine hK _ _ ?_
                  clear hK K
                  have bV7 : Blk w7 w.heap.size 42 #[v] := (bV5.alloc (.cells #[.int .i64 R] 3)).below b7 (by omega)
                  have c7 : w7.cell? ⟨w.heap.size, 0, none⟩ = some v := bV7.cell 0
                  have f7 : w7.frozen? ⟨w.heap.size, 0, none⟩ = false := bV7.frozen 0
                  have hz7 : w5.heap.size + 1 ≤ w7.heap.size := by have := b7.size; simpa using this
                  refine wpAnyIn_ready (rs := [6]) (by kernel_rfl) (by simp) ?_
                  refine AllReadyIn.cons rfl (fun K hK => ?_) ?_
                  ·
                    go_simp
                    refine hK _ _ ?_
                    clear hK K
                    refine wpAnyIn_done (by kernel_rfl) ?_ _
                    gi_wp2
                    refine ⟨((((KeepsOthers.drew W).trans (KeepsOthers.of_grownBy (grown_of_below b5) (fun _ _ e => by cases e))).trans (KeepsOthers.alloc w5 (.cells #[.int .i64 R] 3))).trans (ko7.trans (KeepsOthers.setCell w7 ⟨w.heap.size, 0, none⟩ (.slice p7 m7 q7)))).from _, ?_, ⟨.slice p7 m7 q7, bV7.set 0 (.slice p7 m7 q7), ?_⟩, ?_, ?_⟩
                    · exact Mid.setCell ((((Mid.of_below (Below.refl _ W).drew (by omega)).trans (Mid.of_below b5 (by show _ ≤ W.heap.size; omega))).trans (Mid.of_below ((Below.refl _ w5).alloc (Nat.le_refl _) _) (by omega))).trans (Mid.of_below b7 (Nat.le_refl _))) _ (by simp) _
                    · rw [statesP_snoc s pre x hx, ← HR.out]; exact own7.other _ (by show w.heap.size < _; omega) _
                    · exact (((hB1.drew.trans (b5.mono hB1.size)).alloc (by omega) _).trans (b7.mono (by omega))).setCell (p := ⟨w.heap.size, 0, none⟩) (Nat.le_refl _) _
                    · rw [World.size_setCell]; omega
                  exact AllReadyIn.nil
                exact AllReadyIn.nil
              exact AllReadyIn.nil
            refine AllReadyIn.cons rfl (fun K hK => ?_) ?_
            ·
              go_simp
              refine hK _ _ ?_
              clear hK K
              refine wpAnyIn_ready (rs := [0]) (by kernel_rfl) (by simp) ?_
              refine AllReadyIn.cons rfl (fun K hK => ?_) ?_
              ·
                go_simp
                refine hK _ _ ?_
                clear hK K
                refine wpAnyIn_ready (rs := [5]) (by kernel_rfl) (by simp) ?_
                refine AllReadyIn.cons rfl (fun K hK => ?_) ?_
                ·
                  refine step_appendIn (b := R) (by rfl) _ _ (by rfl) (by rfl) (by rfl) (own5.below ((Below.refl _ w5).alloc (Nat.le_refl _) _)) (by simp) (by omega) (by simp; omega) ?_
                  intro v7 w7 own7 ko7 b7
                  obtain ⟨p7, m7, q7, rfl⟩ := own7.slice
                  refine hK _ _ ?_
                  clear hK K
                  have bV7 : Blk w7 w.heap.size 42 #[v] := (bV5.alloc (.cells #[.int .i64 R] 3)).below b7 (by omega)
                  have c7 : w7.cell? ⟨w.heap.size, 0, none⟩ = some v := bV7.cell 0
                  have f7 : w7.frozen? ⟨w.heap.size, 0, none⟩ = false := bV7.frozen 0
                  have hz7 : w5.heap.size + 1 ≤ w7.heap.size := by have := b7.size; simpa using this
                  refine wpAnyIn_ready (rs := [6]) (by kernel_rfl) (by simp) ?_
                  refine AllReadyIn.cons rfl (fun K hK => ?_) ?_
                  ·
                    go_simp
                    refine hK _ _ ?_
                    clear hK K
                    refine wpAnyIn_done (by kernel_rfl) ?_ _
                    gi_wp2
                    refine ⟨((((KeepsOthers.drew W).trans (KeepsOthers.of_grownBy (grown_of_below b5) (fun _ _ e => by cases e))).trans (KeepsOthers.alloc w5 (.cells #[.int .i64 R] 3))).trans (ko7.trans (KeepsOthers.setCell w7 ⟨w.heap.size, 0, none⟩ (.slice p7 m7 q7)))).from _, ?_, ⟨.slice p7 m7 q7, bV7.set 0 (.slice p7 m7 q7), ?_⟩, ?_, ?_⟩
                    · exact Mid.setCell ((((Mid.of_below (Below.refl _ W).drew (by omega)).trans (Mid.of_below b5 (by show _ ≤ W.heap.size; omega))).trans (Mid.of_below ((Below.refl _ w5).alloc (Nat.le_refl _) _) (by omega))).trans (Mid.of_below b7 (Nat.le_refl _))) _ (by simp) _
                    · rw [statesP_snoc s pre x hx, ← HR.out]; exact own7.other _ (by show w.heap.size < _; omega) _
                    · exact (((hB1.drew.trans (b5.mono hB1.size)).alloc (by omega) _).trans (b7.mono (by omega))).setCell (p := ⟨w.heap.size, 0, none⟩) (Nat.le_refl _) _
                    · rw [World.size_setCell]; omega
                  exact AllReadyIn.nil
                exact AllReadyIn.nil
              exact AllReadyIn.nil
            exact AllReadyIn.nil
          exact AllReadyIn.nil
        exact AllReadyIn.nil
      refine AllReadyIn.cons rfl (fun K hK => ?_) ?_
      ·
        go_simp
        refine hK _ _ ?_
        clear hK K
        refine wpAnyIn_ready (rs := [0, 1]) (by kernel_rfl) (by simp) ?_
        refine AllReadyIn.cons rfl (fun K hK => ?_) ?_
        ·
          go_simp
          refine hK _ _ ?_
          clear hK K
          refine wpAnyIn_ready (rs := [1]) (by kernel_rfl) (by simp) ?_
          refine AllReadyIn.cons rfl (fun K hK => ?_) ?_
          ·
            go_simp
            refine hK _ _ ?_
            clear hK K
            refine wpAnyIn_ready (rs := [3]) (by kernel_rfl) (by simp) ?_
            refine AllReadyIn.cons rfl (fun K hK => ?_) ?_
            ·
              go_simp
              gi_wp2_with (refine ⟨trivial, (fun h => by cases h), ?_⟩; refine (CallsIn.inRound l (callsIn_wide.2 (h2 _))).mono ?_; rintro e w5 ⟨rfl, b5⟩)
              (try (refine hK _ _ ?_; clear hK K))
              have bV5 : Blk w5 w.heap.size 42 #[v] := bV.drew.below b5 lV
              have c5 : w5.cell? ⟨w.heap.size, 0, none⟩ = some v := bV5.cell 0
              have c5a : ∀ o, (w5.alloc o).cell? ⟨w.heap.size, 0, none⟩ = some v := fun o => (bV5.alloc o).cell 0
              have own5 : OwnsI w5 (w.heap.size + 2) v (statesP s pre) := OwnsI.below (w := W.drew) hown b5
              have hz5 : W.heap.size ≤ w5.heap.size := b5.size
              refine wpAnyIn_ready (rs := [4]) (by kernel_rfl) (by simp) ?_
              refine AllReadyIn.cons rfl (fun K hK => ?_) ?_
              ·
                go_simp
                refine hK _ _ ?_
                clear hK K
                refine wpAnyIn_ready (rs := [5]) (by kernel_rfl) (by simp) ?_
                refine AllReadyIn.cons rfl (fun K hK => ?_) ?_
                ·
                  refine step_appendIn (b := R) (by rfl) _ _ (by rfl) (by rfl) (by rfl) (own5.below ((Below.refl _ w5).alloc (Nat.le_refl _) _)) (by simp) (by omega) (by simp; omega) ?_
                  intro v7 w7 own7 ko7 b7
                  obtain ⟨p7, m7, q7, rfl⟩ := own7.slice
                  refine hK _ _ ?_
                  clear hK K
                  have bV7 : Blk w7 w.heap.size 42 #[v] := (bV5.alloc (.cells #[.int .i64 R] 3)).below b7 (by omega)
                  have c7 : w7.cell? ⟨w.heap.size, 0, none⟩ = some v := bV7.cell 0
                  have f7 : w7.frozen? ⟨w.heap.size, 0, none⟩ = false := bV7.frozen 0
                  have hz7 : w5.heap.size + 1 ≤ w7.heap.size := by have := b7.size; simpa using this
                  refine wpAnyIn_ready (rs := [6]) (by kernel_rfl) (by simp) ?_
                  refine AllReadyIn.cons rfl (fun K hK => ?_) ?_
                  ·
                    go_simp
                    refine hK _ _ ?_
                    clear hK K
                    refine wpAnyIn_done (by kernel_rfl) ?_ _
                    gi_wp2
                    refine ⟨((((KeepsOthers.drew W).trans (KeepsOthers.of_grownBy (grown_of_below b5) (fun _ _ e => by cases e))).trans (KeepsOthers.alloc w5 (.cells #[.int .i64 R] 3))).trans (ko7.trans (KeepsOthers.setCell w7 ⟨w.heap.size, 0, none⟩ (.slice p7 m7 q7)))).from _, ?_, ⟨.slice p7 m7 q7, bV7.set 0 (.slice p7 m7 q7), ?_⟩, ?_, ?_⟩
                    · exact Mid.setCell ((((Mid.of_below (Below.refl _ W).drew (by omega)).trans (Mid.of_below b5 (by show _ ≤ W.heap.size; omega))).trans (Mid.of_below ((Below.refl _ w5).alloc (Nat.le_refl _) _) (by omega))).trans (Mid.of_below b7 (Nat.le_refl _))) _ (by simp) _
                    · rw [statesP_snoc s pre x hx, ← HR.out]; exact own7.other _ (by show w.heap.size < _; omega) _
                    · exact (((hB1.drew.trans (b5.mono hB1.size)).alloc (by omega) _).trans (b7.mono (by omega))).setCell (p := ⟨w.heap.size, 0, none⟩) (Nat.le_refl _) _
                    · rw [World.size_setCell]; omega
                  exact AllReadyIn.nil
                exact AllReadyIn.nil
              exact AllReadyIn.nil
            exact AllReadyIn.nil
          exact AllReadyIn.nil
        refine AllReadyIn.cons rfl (fun K hK => ?_) ?_
        ·
          go_simp
          refine hK _ _ ?_
          clear hK K
          refine wpAnyIn_ready (rs := [0, 3]) (by kernel_rfl) (by simp) ?_
          refine AllReadyIn.cons rfl (fun K hK => ?_) ?_
          ·
            go_simp
            refine hK _ _ ?_
            clear hK K
            refine wpAnyIn_ready (rs := [3]) (by kernel_rfl) (by simp) ?_
            refine AllReadyIn.cons rfl (fun K hK => ?_) ?_
            ·
              go_simp
              gi_wp2_with (refine ⟨trivial, (fun h => by cases h), ?_⟩; refine (CallsIn.inRound l (callsIn_wide.2 (h2 _))).mono ?_; rintro e w5 ⟨rfl, b5⟩)
              (try (refine hK _ _ ?_; clear hK K))
              have bV5 : Blk w5 w.heap.size 42 #[v] := bV.drew.below b5 lV
              have c5 : w5.cell? ⟨w.heap.size, 0, none⟩ = some v := bV5.cell 0
              have c5a : ∀ o, (w5.alloc o).cell? ⟨w.heap.size, 0, none⟩ = some v := fun o => (bV5.alloc o).cell 0
              have own5 : OwnsI w5 (w.heap.size + 2) v (statesP s pre) := OwnsI.below (w := W.drew) hown b5
              have hz5 : W.heap.size ≤ w5.heap.size := b5.size
              refine wpAnyIn_ready (rs := [4]) (by kernel_rfl) (by simp) ?_
              refine AllReadyIn.cons rfl (fun K hK => ?_) ?_
              ·
                go_simp
                refine hK _ _ ?_
                clear hK K
                refine wpAnyIn_ready (rs := [5]) (by kernel_rfl) (by simp) ?_
                refine AllReadyIn.cons rfl (fun K hK => ?_) ?_
                ·
                  refine step_appendIn (b := R) (by rfl) _ _ (by rfl) (by rfl) (by rfl) (own5.below ((Below.refl _ w5).alloc (Nat.le_refl _) _)) (by simp) (by omega) (by simp; omega) ?_
                  intro v7 w7 own7 ko7 b7
                  obtain ⟨p7, m7, q7, rfl⟩ := own7.slice
                  refine hK _ _ ?_
                  clear hK K
                  have bV7 : Blk w7 w.heap.size 42 #[v] := (bV5.alloc (.cells #[.int .i64 R] 3)).below b7 (by omega)
                  have c7 : w7.cell? ⟨w.heap.size, 0, none⟩ = some v := bV7.cell 0
                  have f7 : w7.frozen? ⟨w.heap.size, 0, none⟩ = false := bV7.frozen 0
                  have hz7 : w5.heap.size + 1 ≤ w7.heap.size := by have := b7.size; simpa using this
                  refine wpAnyIn_ready (rs := [6]) (by kernel_rfl) (by simp) ?_
                  refine AllReadyIn.cons rfl (fun K hK => ?_) ?_
                  ·
                    go_simp
                    refine hK _ _ ?_
                    clear hK K
                    refine wpAnyIn_done (by kernel_rfl) ?_ _
                    gi_wp2
                    refine ⟨((((KeepsOthers.drew W).trans (KeepsOthers.of_grownBy (grown_of_below b5) (fun _ _ e => by cases e))).trans (KeepsOthers.alloc w5 (.cells #[.int .i64 R] 3))).trans (ko7.trans (KeepsOthers.setCell w7 ⟨w.heap.size, 0, none⟩ (.slice p7 m7 q7)))).from _, ?_, ⟨.slice p7 m7 q7, bV7.set 0 (.slice p7 m7 q7), ?_⟩, ?_, ?_⟩
                    · exact Mid.setCell ((((Mid.of_below (Below.refl _ W).drew (by omega)).trans (Mid.of_below b5 (by show _ ≤ W.heap.size; omega))).trans (Mid.of_below ((Below.refl _ w5).alloc (Nat.le_refl _) _) (by omega))).trans (Mid.of_below b7 (Nat.le_refl _))) _ (by simp) _
                    · rw [statesP_snoc s pre x hx, ← HR.out]; exact own7.other _ (by show w.heap.size < _; omega) _
                    · exact (((hB1.drew.trans (b5.mono hB1.size)).alloc (by omega) _).trans (b7.mono (by omega))).setCell (p := ⟨w.heap.size, 0, none⟩) (Nat.le_refl _) _
                    · rw [World.size_setCell]; omega
                  exact AllReadyIn.nil
                exact AllReadyIn.nil
              exact AllReadyIn.nil
            exact AllReadyIn.nil
          refine AllReadyIn.cons rfl (fun K hK => ?_) ?_
          ·
            go_simp
            gi_wp2_with (refine ⟨trivial, (fun h => by cases h), ?_⟩; refine (CallsIn.inRound l (callsIn_wide.2 (h2 _))).mono ?_; rintro e w5 ⟨rfl, b5⟩)
            (try (refine hK _ _ ?_; clear hK K))
            have bV5 : Blk w5 w.heap.size 42 #[v] := bV.drew.below b5 lV
            have c5 : w5.cell? ⟨w.heap.size, 0, none⟩ = some v := bV5.cell 0
            have c5a : ∀ o, (w5.alloc o).cell? ⟨w.heap.size, 0, none⟩ = some v := fun o => (bV5.alloc o).cell 0
            have own5 : OwnsI w5 (w.heap.size + 2) v (statesP s pre) := OwnsI.below (w := W.drew) hown b5
            have hz5 : W.heap.size ≤ w5.heap.size := b5.size
            refine wpAnyIn_ready (rs := [0, 4]) (by kernel_rfl) (by simp) ?_
            refine AllReadyIn.cons rfl (fun K hK => ?_) ?_
            ·
              go_simp
              refine hK _ _ ?_
              clear hK K
              refine wpAnyIn_ready (rs := [4]) (by kernel_rfl) (by simp) ?_
              refine AllReadyIn.cons rfl (fun K hK => ?_) ?_
              ·
                go_simp
                refine hK _ _ ?_
                clear hK K
                refine wpAnyIn_ready (rs := [5]) (by kernel_rfl) (by simp) ?_
                refine AllReadyIn.cons rfl (fun K hK => ?_) ?_
                ·
                  refine step_appendIn (b := R) (by rfl) _ _ (by rfl) (by rfl) (by rfl) (own5.below ((Below.refl _ w5).alloc (Nat.le_refl _) _)) (by simp) (by omega) (by simp; omega) ?_
                  intro v7 w7 own7 ko7 b7
                  obtain ⟨p7, m7, q7, rfl⟩ := own7.slice
                  refine hK _ _ ?_
                  clear hK K
                  have bV7 : Blk w7 w.heap.size 42 #[v] := (bV5.alloc (.cells #[.int .i64 R] 3)).below b7 (by omega)
                  have c7 : w7.cell? ⟨w.heap.size, 0, none⟩ = some v := bV7.cell 0
                  have f7 : w7.frozen? ⟨w.heap.size, 0, none⟩ = false := bV7.frozen 0
                  have hz7 : w5.heap.size + 1 ≤ w7.heap.size := by have := b7.size; simpa using this
                  refine wpAnyIn_ready (rs := [6]) (by kernel_rfl) (by simp) ?_
                  refine AllReadyIn.cons rfl (fun K hK => ?_) ?_
                  ·
                    go_simp
                    refine hK _ _ ?_
                    clear hK K
                    refine wpAnyIn_done (by kernel_rfl) ?_ _
                    gi_wp2
                    refine ⟨((((KeepsOthers.drew W).trans (KeepsOthers.of_grownBy (grown_of_below b5) (fun _ _ e => by cases e))).trans (KeepsOthers.alloc w5 (.cells #[.int .i64 R] 3))).trans (ko7.trans (KeepsOthers.setCell w7 ⟨w.heap.size, 0, none⟩ (.slice p7 m7 q7)))).from _, ?_, ⟨.slice p7 m7 q7, bV7.set 0 (.slice p7 m7 q7), ?_⟩, ?_, ?_⟩
                    · exact Mid.setCell ((((Mid.of_below (Below.refl _ W).drew (by omega)).trans (Mid.of_below b5 (by show _ ≤ W.heap.size; omega))).trans (Mid.of_below ((Below.refl _ w5).alloc (Nat.le_refl _) _) (by omega))).trans (Mid.of_below b7 (Nat.le_refl _))) _ (by simp) _
                    · rw [statesP_snoc s pre x hx, ← HR.out]; exact own7.other _ (by show w.heap.size < _; omega) _
                    · exact (((hB1.drew.trans (b5.mono hB1.size)).alloc (by omega) _).trans (b7.mono (by omega))).setCell (p := ⟨w.heap.size, 0, none⟩) (Nat.le_refl _) _
                    · rw [World.size_setCell]; omega
                  exact AllReadyIn.nil
                exact AllReadyIn.nil
              exact AllReadyIn.nil
            refine AllReadyIn.cons rfl (fun K hK => ?_) ?_
            ·
              go_simp
              refine hK _ _ ?_
              clear hK K
              refine wpAnyIn_ready (rs := [0]) (by kernel_rfl) (by simp) ?_
              refine AllReadyIn.cons rfl (fun K hK => ?_) ?_
              ·
                go_simp
                refine hK _ _ ?_
                clear hK K
                refine wpAnyIn_ready (rs := [5]) (by kernel_rfl) (by simp) ?_
                refine AllReadyIn.cons rfl (fun K hK => ?_) ?_
                ·
                  refine step_appendIn (b := R) (by rfl) _ _ (by rfl) (by rfl) (by rfl) (own5.below ((Below.refl _ w5).alloc (Nat.le_refl _) _)) (by simp) (by omega) (by simp; omega) ?_
                  intro v7 w7 own7 ko7 b7
                  obtain ⟨p7, m7, q7, rfl⟩ := own7.slice
                  refine hK _ _ ?_
                  clear hK K
                  have bV7 : Blk w7 w.heap.size 42 #[v] := (bV5.alloc (.cells #[.int .i64 R] 3)).below b7 (by omega)
                  have c7 : w7.cell? ⟨w.heap.size, 0, none⟩ = some v := bV7.cell 0
                  have f7 : w7.frozen? ⟨w.heap.size, 0, none⟩ = false := bV7.frozen 0
                  have hz7 : w5.heap.size + 1 ≤ w7.heap.size := by have := b7.size; simpa using this
                  refine wpAnyIn_ready (rs := [6]) (by kernel_rfl) (by simp) ?_
                  refine AllReadyIn.cons rfl (fun K hK => ?_) ?_
                  ·
                    go_simp
                    refine hK _ _ ?_
                    clear hK K
                    refine wpAnyIn_done (by kernel_rfl) ?_ _
                    gi_wp2
                    refine ⟨((((KeepsOthers.drew W).trans (KeepsOthers.of_grownBy (grown_of_below b5) (fun _ _ e => by cases e))).trans (KeepsOthers.alloc w5 (.cells #[.int .i64 R] 3))).trans (ko7.trans (KeepsOthers.setCell w7 ⟨w.heap.size, 0, none⟩ (.slice p7 m7 q7)))).from _, ?_, ⟨.slice p7 m7 q7, bV7.set 0 (.slice p7 m7 q7), ?_⟩, ?_, ?_⟩
                    · exact Mid.setCell ((((Mid.of_below (Below.refl _ W).drew (by omega)).trans (Mid.of_below b5 (by show _ ≤ W.heap.size; omega))).trans (Mid.of_below ((Below.refl _ w5).alloc (Nat.le_refl _) _) (by omega))).trans (Mid.of_below b7 (Nat.le_refl _))) _ (by simp) _
                    · rw [statesP_snoc s pre x hx, ← HR.out]; exact own7.other _ (by show w.heap.size < _; omega) _
                    · exact (((hB1.drew.trans (b5.mono hB1.size)).alloc (by omega) _).trans (b7.mono (by omega))).setCell (p := ⟨w.heap.size, 0, none⟩) (Nat.le_refl _) _
                    · rw [World.size_setCell]; omega
                  exact AllReadyIn.nil
                exact AllReadyIn.nil
              exact AllReadyIn.nil
            exact AllReadyIn.nil
          exact AllReadyIn.nil
        exact AllReadyIn.nil
      exact AllReadyIn.nil
    · have hq : ¬ (0 < (x.1 : Int)) := by omega
      have HN := Lib.hid (statesP_zero s pre x (by omega))
      gi_wp2
      exact ⟨(KeepsOthers.refl W).from _, Mid.refl _ _ _, ⟨⟨v, bV, by rw [HN.out]; exact hown⟩, hB1, hW2⟩⟩
  case done =>
    rintro D zs W hD rfl ⟨⟨v, bV, hown⟩, hB1, hW2⟩ hK
    obtain ⟨p7, m7, q7, rfl⟩ := hown.slice
    have cV := bV.cell 0
    have fV := bV.frozen 0
    gi_wp2
    have bX2 := bV.set 0 (.slice p7 m7 q7)
    have own2 := hown.other ⟨w.heap.size, 0, none⟩ (by show w.heap.size < _; omega) (.slice p7 m7 q7)
    have hK' := (KeepsOthers.setCell W ⟨w.heap.size, 0, none⟩ (.slice p7 m7 q7)).same D _ hK rfl
    have bX3 := blk_own w.heap.size 42 (fun (_ : Unit) => #[.slice p7 m7 q7]) () _ _ _ bX2 (grownBy_putObj' _ D (.deferred none)) (fun r e => by cases e; exact ⟨_, hK', rfl⟩)
    have own3 := own2.keeps (grownBy_putObj' _ D (.deferred none)) (fun r e => by cases e; exact ⟨_, hK', rfl⟩)
    have hc5 := bX3.cell 0
    refine ⟨by simp, .inl ⟨_, _, rfl, run_takeDeferred hK', ?_⟩⟩
    refine ⟨.slice p7 m7 q7, ?_, .slice p7 m7 q7, rfl, ?_, ?_⟩
    · simp [results, Try.f19, go_sem, hc5]
    · exact own3.base (by omega)
    · exact (hB1.setCell (p := ⟨w.heap.size, 0, none⟩) (by simp) _).trans (belowK_b (w := w) (Nat.le_refl _) _ D _ _ (by omega) hK' rfl rfl)
  case stop =>
    rintro D c pre W _ _ h _
    exact h.elim

/-- what States answers: a slice of the call's own that holds the states -/
def StatesPost (s : ByteArray) (w : World) (e : Ending) (w' : World) : Prop := ∃ v, e = .returned v ∧ OwnsI w' w.heap.size v (statesL s) ∧ Below w.heap.size w w'
theorem States_any (s : ByteArray) (hs : s.size ≤ maxLen) (w : World) : Calls Try.prog 19 #[.string s] w (StatesPost s w) := callsIn_wide.1 (States_in 5 (by omega) s hs w)
end Go.Proofs.Ytopcklbeppiipaa
