/- Contracts and plain laws, put together: PlanA, PlanB, PlanC, Plan, Look, Put, Boot, Kept, Ask, Write, Craft, Goes, CraftH, Sensor. -/
import Derived.Test.YtebkeocpojlepaaGreatDoorG22
import Derived.Test.YtebkeocpojlepaaGreatDoorG21
import Derived.Test.YtebkeocpojlepaaGreatDoorG13
import Derived.Deep.RegionHeld3
import Derived.BigRegion
import Derived.Test.YtebkeocpojlepaaGreatDoorG10
import Derived.Test.YtebkeocpojlepaaGreatDoorG12
import Derived.Test.YtebkeocpojlepaaGreatDoorG04
import Derived.Test.YtebkeocpojlepaaGreatDoorG11
import Derived.Test.YtebkeocpojlepaaGreatDoorG07
/- plan: ops in memory; layout.Mark, record.Mark; maker.program, write; Append. -/
namespace Go.Proofs.YtebkeocpojlepaaGreatDoor
open Go.RowKit
set_option linter.unusedVariables false
set_option linter.unusedSimpArgs false

abbrev oqC (o : Oq) : List Value := [.int .i64 o.kind, .int .i64 o.bank, .int .i64 o.at_, .string o.data]
def ocells (L : List Oq) : List Value := L.flatMap oqC
theorem ocells_nil : ocells [] = [] := rfl
theorem ocells_cons (o : Oq) (L : List Oq) : ocells (o :: L) = oqC o ++ ocells L := rfl
theorem ocells_append (L M : List Oq) : ocells (L ++ M) = ocells L ++ ocells M := by simp [ocells]
theorem ocells_length (L : List Oq) : (ocells L).length = L.length * 4 := by
  induction L with
  | nil => rfl
  | cons o L ih => rw [ocells_cons, List.length_append, ih]; simp; omega
theorem ocells_get (L : List Oq) (i : Nat) (h : i < L.length) :
    (ocells L)[i * 4]? = some (.int .i64 L[i].kind) ∧ (ocells L)[i * 4 + 1]? = some (.int .i64 L[i].bank) ∧ (ocells L)[i * 4 + 2]? = some (.int .i64 L[i].at_) ∧ (ocells L)[i * 4 + 3]? = some (.string L[i].data) := by
  induction L generalizing i with
  | nil => simp at h
  | cons o L ih =>
    match i, h with
    | 0, _ => exact ⟨rfl, rfl, rfl, rfl⟩
    | i + 1, h =>
      have hi : i < L.length := by simpa using h
      obtain ⟨h0, h1, h2, h3⟩ := ih i hi
      rw [ocells_cons]
      refine ⟨?_, ?_, ?_, ?_⟩
      · rw [List.getElem?_append_right (by simp; omega)]; simpa [show (i + 1) * 4 - 4 = i * 4 by omega] using h0
      · rw [List.getElem?_append_right (by simp; omega)]; simpa [show (i + 1) * 4 + 1 - 4 = i * 4 + 1 by omega] using h1
      · rw [List.getElem?_append_right (by simp; omega)]; simpa [show (i + 1) * 4 + 2 - 4 = i * 4 + 2 by omega] using h2
      · rw [List.getElem?_append_right (by simp; omega)]; simpa [show (i + 1) * 4 + 3 - 4 = i * 4 + 3 by omega] using h3
theorem ocells_one (L : List Oq) : ∀ u ∈ ocells L, u.oneCell' = true := by
  intro u hu
  obtain ⟨o, _, h⟩ := List.mem_flatMap.1 hu
  simp at h
  rcases h with rfl | rfl | rfl | rfl <;> rfl

/-- ops of the call's own, in memory -/
def OwnsO (w : World) (base : Nat) (v : Value) (L : List Oq) : Prop := w.ownsRow base 161 4 v L.length (ocells L)
theorem infoO : (Tryz.prog.info? 161).map (fun i => (i.zero, i.size, i.bytes)) = some (some (.agg #[.int .i64 0, .int .i64 0, .int .i64 0, .string ⟨#[]⟩]), 4, 40) := by kernel_rfl
/-- what is read: a slice with these ops -/
def PartO (w : World) (v : Value) (L : List Oq) : Prop := ∃ g c, v = .slice (some ⟨g, 0, none⟩) L.length c ∧ g < w.heap.size ∧ ∀ j u, (ocells L)[j]? = some u → w.cell? ⟨g, j, none⟩ = some u
theorem PartO.below {w w' : World} {v : Value} {L : List Oq} (h : PartO w v L) (hb : Below w.heap.size w w') : PartO w' v L := by
  obtain ⟨g, c, hv, hg, hc⟩ := h
  exact ⟨g, c, hv, Nat.lt_of_lt_of_le hg hb.size, fun j u hj => (hb.cell (p := ⟨g, j, none⟩) hg).trans (hc j u hj)⟩
theorem PartO.ops {w : World} {v : Value} {L : List Oq} (h : PartO w v L) : OpsV w v L := by
  obtain ⟨g, c, hv, hg, hc⟩ := h
  refine .inr ⟨g, 0, c, hv, fun i hi => ?_⟩
  obtain ⟨h0, h1, h2, h3⟩ := ocells_get L i hi
  rw [Nat.zero_add]
  exact ⟨hc _ _ h0, hc _ _ h1, hc _ _ h2, hc _ _ h3⟩
theorem OwnsO.part {w : World} {base : Nat} {v : Value} {L : List Oq} (h : OwnsO w base v L) (hL : L ≠ []) : PartO w v L := by
  obtain ⟨hl, h2⟩ := h
  have hpos : 0 < L.length := List.length_pos_iff.2 hL
  rcases h2 with ⟨_, h0⟩ | ⟨g, cap, cur, hv, hb, hg, hnc, hcm, hcs, ht⟩
  · omega
  · refine ⟨g, cap, hv, (Array.getElem?_eq_some_iff.1 hg).1, fun j u hj => ?_⟩
    have hjl : j < (ocells L).length := (List.getElem?_eq_some_iff.1 hj).1
    rw [cell_of_row w g j cur _ _ hg]
    rw [← ht, List.getElem?_take_of_lt (by omega)] at hj
    simpa using hj
theorem OwnsO.ops {w : World} {base : Nat} {v : Value} {L : List Oq} (h : OwnsO w base v L) : OpsV w v L := by
  by_cases hL : L = []
  · subst hL
    obtain ⟨_, ⟨hv, _⟩ | ⟨g, cap, cur, hv, _⟩⟩ := h
    · exact .inl ⟨hv, rfl⟩
    · exact .inr ⟨g, 0, cap, hv, fun i hi => by simp at hi⟩
  · exact (h.part hL).ops
theorem OwnsO.below {w w' : World} {base : Nat} {v : Value} {L : List Oq} (h : OwnsO w base v L) (hb : Below w.heap.size w w') : OwnsO w' base v L := by
  obtain ⟨h1, h2⟩ := h
  refine ⟨h1, ?_⟩
  rcases h2 with h2 | ⟨g, cap, cur, hv, hbg, hg, hr⟩
  · exact .inl h2
  · exact .inr ⟨g, cap, cur, hv, hbg, (hb.block g (Array.getElem?_eq_some_iff.1 hg).1).trans hg, hr⟩
theorem OwnsO.base {w : World} {b c : Nat} {v : Value} {L : List Oq} (h : OwnsO w b v L) (hc : c ≤ b) : OwnsO w c v L := by
  obtain ⟨h1, h2⟩ := h
  refine ⟨h1, ?_⟩
  rcases h2 with h2 | ⟨g, cap, cur, hv, hbg, hr⟩
  · exact .inl h2
  · exact .inr ⟨g, cap, cur, hv, Nat.le_trans hc hbg, hr⟩
theorem OwnsO.nil (w : World) (base : Nat) : OwnsO w base (.slice none 0 0) [] := World.ownsRow_nil w base _ 4
theorem OwnsO.lit (w : World) (base : Nat) (L : List Oq) (hb : base ≤ w.heap.size) (hl : L.length ≤ 1000) : OwnsO (w.alloc (.cells (ocells L).toArray 161)) base (.slice (some ⟨w.heap.size, 0, none⟩) L.length L.length) L := by
  have := World.ownsRow_lit (base := base) (size := 4) (e := 161) w (ocells L).toArray L.length hb (by unfold maxLen; omega) (by simp [ocells_length])
  simpa [OwnsO] using this
theorem OwnsO.base_le {w : World} {base : Nat} {v : Value} {L : List Oq} (h : OwnsO w base v L) : ∀ k, v.ownBlock = some k → base ≤ k := by
  intro k hk
  obtain ⟨_, h2⟩ := h
  rcases h2 with ⟨rfl, _⟩ | ⟨g, cap, cur, rfl, hbg, _⟩
  · simp [Value.ownBlock] at hk
  · simp [Value.ownBlock] at hk; omega

theorem mark_any (n : Int) (w : World) :
    Calls Tryz.prog 133 #[.int .i64 n] w fun e w' => e = .returned (.int .i64 (markL n)) ∧ w = w' := by
  by_cases h : 0 ≤ n ∧ n ≤ 12
  · have ha : atL n = 24 * n := by unfold atL; rw [if_pos h]
    obtain ⟨h1, h2⟩ := h
    have HA := Lib.hid ha; clear ha
    go_enter Tryz.func133, Tryz.ntmps133
    go_wp2_with (refine (at_any _ _).mono ?_; rw [HA.out]; rintro e w' ⟨rfl, rfl⟩)
    go_ret
    exact ⟨ret_int (by unfold markL; rw [if_pos ⟨h1, h2⟩]; omega), rfl⟩
  · have ha : atL n = -1 := by unfold atL; rw [if_neg h]
    have HA := Lib.hid ha; clear ha
    go_enter Tryz.func133, Tryz.ntmps133
    go_wp2_with (refine (at_any _ _).mono ?_; rw [HA.out]; rintro e w' ⟨rfl, rfl⟩)
    go_ret
    exact ⟨ret_int (by unfold markL; rw [if_neg h]), rfl⟩
theorem Mark_any (w : World) : Calls Tryz.prog 134 #[] w fun e w' => e = .returned (.string ⟨#[90, 60]⟩) ∧ w = w' := by
  go_enter Tryz.func134, Tryz.ntmps134
  go_wp2
  go_ret
  exact ⟨rfl, rfl⟩

theorem infoOq (a b c : Int) (s : ByteArray) : (Tryz.prog.info? 161).map (·.size) = some (#[.int .i64 a, .int .i64 b, .int .i64 c, .string s] : Array Value).size := by kernel_rfl
theorem oneOq (a b c : Int) (s : ByteArray) : (#[.int .i64 a, .int .i64 b, .int .i64 c, .string s] : Array Value).all (·.oneCell') = true := by kernel_rfl
theorem program_plan (b t : Int) (s : ByteArray) (w : World) : Calls Tryz.prog 130 #[.agg #[.int .i64 b], .int .i64 t, .string s] w fun e w' => e = .returned (oqV ⟨1, b, t, s⟩) ∧ Below w.heap.size w w' := by
  have kR := Blk.new (w.alloc (.cells #[.int .i64 b] 191)) 161 #[.int .i64 0, .int .i64 0, .int .i64 0, .string ⟨#[]⟩]
  rw [World.size_alloc] at kR
  have B0 : Below w.heap.size w ((w.alloc (.cells #[.int .i64 b] 191)).alloc (.cells #[.int .i64 0, .int .i64 0, .int .i64 0, .string ⟨#[]⟩] 161)) := ((Below.refl _ w).alloc (Nat.le_refl _) _).alloc (by simp) _
  go_enter Tryz.func130, Tryz.ntmps130
  go_wp2_with (refine wpList_store_row rfl 161 (.tmp 6) (.tmp 11) rfl (w.heap.size + 1) #[.int .i64 1, .int .i64 b, .int .i64 t, .string s] rfl rfl 161 _ kR (infoOq _ _ _ _) rfl (oneOq _ _ _ _) ?_)
  exact bodyPost_ret (v := oqV ⟨1, b, t, s⟩) (results_cell_row rfl _ _ (w.heap.size + 1) 161 #[.int .i64 1, .int .i64 b, .int .i64 t, .string s] (0, 0) _ rfl (kR.row _) Tryz.underlying161 rfl (infoOq _ _ _ _)) rfl ⟨rfl, bel_row B0 _ (Nat.le_succ _) _⟩

/-- the two ops that write a record -/
def writeL (b p k : Int) (n d : Nat) : List Oq := [⟨1, b, atL p, bodyB k n d⟩, ⟨1, b, markL p, ⟨#[90, 60]⟩⟩]
def OpsPost (w : World) (L : List Oq) (e : Ending) (w' : World) : Prop := ∃ v, e = .returned v ∧ OwnsO w' w.heap.size v L ∧ Below w.heap.size w w'

set_option maxHeartbeats 4000000 in
theorem write_plan (b p k : Int) (n d : Nat) (hk : (Lit.int .i64 k).wf = true) (hn : n < 18446744073709551616) (hd : d < 18446744073709551616) (w : World) :
    Calls Tryz.prog 114 #[.agg #[.int .i64 b], .int .i64 p, recV k n d] w (OpsPost w (writeL b p k n d)) := by
  have h1 := at_any p
  have h2 := Body_any k n d hk hn hd
  have h3 := program_plan b (atL p) (bodyB k n d)
  have h4 := mark_any p
  have h5 := Mark_any
  have h6 := program_plan b (markL p) ⟨#[90, 60]⟩
  have hR : writeL b p k n d = [⟨1, b, atL p, bodyB k n d⟩, ⟨1, b, markL p, ⟨#[90, 60]⟩⟩] := rfl
  have HR := Lib.hid hR
  clear hR
  generalize writeL b p k n d = R at *
  generalize atL p = t1 at *
  generalize markL p = t2 at *
  generalize bodyB k n d = s1 at *
  generalize (⟨#[90, 60]⟩ : ByteArray) = s2 at *
  have k0 := (Blk.new w 191 #[.int .i64 b]).alloc (.cells #[.int .i64 k, .int .u64 (n : Int), .int .u64 (d : Int)] 166)
  have k1 := Blk.new (w.alloc (.cells #[.int .i64 b] 191)) 166 #[.int .i64 k, .int .u64 (n : Int), .int .u64 (d : Int)]
  rw [World.size_alloc] at k1
  have B0 : Below w.heap.size w ((w.alloc (.cells #[.int .i64 b] 191)).alloc (.cells #[.int .i64 k, .int .u64 (n : Int), .int .u64 (d : Int)] 166)) := ((Below.refl _ w).alloc (Nat.le_refl _) _).alloc (by simp) _
  go_enter Tryz.func114, Tryz.ntmps114
  go_wp2_with fail
  generalize World.alloc (World.alloc w _) _ = W0 at *
  have c0 : ∀ m : CalmW W0.heap.size W0, m.val.cell? ⟨w.heap.size, 0, none⟩ = some (.int .i64 b) := fun m => (k0.below m.below k0.lt).cell 0
  have c1 : ∀ m : CalmW W0.heap.size W0, m.val.cell? ⟨w.heap.size + 1, 0, none⟩ = some (.int .i64 k) := fun m => (k1.below m.below k1.lt).cell 0
  have c2 : ∀ m : CalmW W0.heap.size W0, m.val.cell? ⟨w.heap.size + 1, 1, none⟩ = some (.int .u64 (n : Int)) := fun m => (k1.below m.below k1.lt).cell 1
  have c3 : ∀ m : CalmW W0.heap.size W0, m.val.cell? ⟨w.heap.size + 1, 2, none⟩ = some (.int .u64 (d : Int)) := fun m => (k1.below m.below k1.lt).cell 2
  refine wp_region_calm_head W0.heap.size 11 2 #[true, true, true, true, true, true, true, true, true, true, true, false, false] (by kernel_rfl) (by kernel_rfl) rfl ?_
  simp only [List.take_succ_cons, List.take_zero]
  repeat (go_big_quiet_step (first | (with_reducible refine calm_same (h1 _)) | (with_reducible refine calm_of (Nat.le_refl _) (h2 _)) | (with_reducible refine calm_of (Nat.le_refl _) (h3 _)) | (with_reducible refine calm_same (h4 _)) | (with_reducible refine calm_same (h5 _)) | (with_reducible refine calm_of (Nat.le_refl _) (h6 _))))
  refine wpQuiet_nil ?_
  intro W4 hw4
  obtain ⟨⟨W5, b4⟩, hw5⟩ := hw4
  obtain rfl : W4 = W5 := hw5
  have B4 := bthen B0 b4
  clear c0 c1 c2 c3 k0 k1 B0 b4 h1 h2 h3 h4 h5 h6
  refine wpAny_ready (rs := [11]) (by kernel_rfl) (by simp) ?_
  refine AllReady.cons rfl (fun K hK => ?_) AllReady.nil
  go_simp
  refine hK _ _ ?_
  clear hK K
  refine wpAny_ready (rs := [12]) (by kernel_rfl) (by simp) ?_
  refine AllReady.cons rfl (fun K hK => ?_) AllReady.nil
  go_simp
  refine hK _ _ ?_
  clear hK K
  refine wpAny_done (by kernel_rfl) ?_ _
  go_wp2
  go_ret
  exact ⟨_, rfl, by rw [HR.out]; exact OwnsO.lit W4 w.heap.size [⟨1, b, t1, s1⟩, ⟨1, b, t2, s2⟩] B4.size (by simp), B4.alloc B4.size _⟩

theorem Append_any (b p : Int) (n d : Nat) (hn : n < 18446744073709551616) (hd : d < 18446744073709551616) (w : World) :
    Calls Tryz.prog 92 #[.int .i64 b, .int .i64 p, .int .u64 (n : Int), .int .u64 (d : Int)] w (OpsPost w (writeL b p 2 n d)) := by
  have h1 := write_plan b p 2 n d (by decide) hn hd
  unfold OpsPost recV at h1
  generalize writeL b p 2 n d = R at *
  go_enter Tryz.func92, Tryz.ntmps92
  go_wp2_with (with_reducible refine (h1 _).mono ?_; rintro e w1 ⟨v, rfl, own1, q1⟩)
  go_ret
  exact ⟨v, rfl, own1, q1⟩
end Go.Proofs.YtebkeocpojlepaaGreatDoor

/- plan.gather, Fresh. -/
namespace Go.Proofs.YtebkeocpojlepaaGreatDoor
open Go.RowKit
set_option linter.unusedVariables false
set_option linter.unusedSimpArgs false

theorem cells_down {W W' : World} {p : Addr} {x : Value} (hb : Below W.heap.size W W') (h : W.cell? p = some x) : W'.cell? p = some x :=
  (hb.cell (p := p) (World.block_lt_of_cell? W p h)).trans h

def flatO (PL : List (Value × List Oq)) : List Oq := PL.flatMap (·.2)
theorem flatO_snoc (PL : List (Value × List Oq)) (k : Nat) (h : k < PL.length) : flatO (PL.take (k + 1)) = flatO (PL.take k) ++ PL[k].2 := by
  rw [List.take_succ_eq_append_getElem h]; simp only [flatO, List.flatMap_append, List.flatMap_cons, List.flatMap_nil, List.append_nil]
theorem flatO_len (PL : List (Value × List Oq)) (k : Nat) : (flatO (PL.take k)).length ≤ (flatO PL).length := by
  have h : flatO PL = flatO (PL.take k) ++ flatO (PL.drop k) := by
    conv => lhs; rw [← List.take_append_drop k PL]
    simp only [flatO, List.flatMap_append]
  rw [h, List.length_append]; omega

theorem wpList_appendO {ops : Array Oper} {rest : List Oper} {o : Oper} {a : Act} {w : World} {Q : Exit → Act → World → Prop} (hgd : o.guard = none) (s x : Operand)
    (ho : o.op = .call { callee := .builtin .append, args := #[s, x], argTypes := #[121, 121] }) (base : Nat) (v : Value) (L : List Oq) (hs : a.eval s = v) (own : OwnsO w base v L)
    (g c : Nat) (M : List Oq) (hx : a.eval x = .slice (some ⟨g, 0, none⟩) M.length c) (hc : ∀ j u, (ocells M)[j]? = some u → w.cell? ⟨g, j, none⟩ = some u) (hl : L.length + M.length ≤ 100) (hb : base ≤ w.heap.size)
    (w0 : World) (B0 : Below base w0 w) (h : ∀ v' w', OwnsO w' base v' (L ++ M) → Below base w0 w' → wpList Tryz.prog ops Q rest (a.put o.dst v') w') : wpList Tryz.prog ops Q (o :: rest) a w := by
  obtain ⟨i0, hi, hz0, hz1, hz2⟩ := info_parts infoO
  refine wpList_append_own _ hgd s x 121 ho base 161 i0 (.agg #[.int .i64 0, .int .i64 0, .int .i64 0, .string ⟨#[]⟩]) 4 40 Tryz.underlying121 hi hz0 hz1 hz2 rfl (by decide) v _ (ocells L) hs own ⟨g, 0, none⟩ M.length c (ocells M) hx (ocells_length M)
    (fun j u h => by rw [addr_add, Nat.zero_add]; exact hc j u h) (ocells_one M) (by unfold maxLen; omega) (by omega) hb ?_
  intro v' w' own' gr _
  refine h v' w' ?_ (B0.grown gr hb (fun k e => OwnsO.base_le own k e))
  show w'.ownsRow _ _ _ _ _ _
  rw [ocells_append, List.length_append]
  exact own'

set_option maxRecDepth 100000 in
set_option maxHeartbeats 4000000 in
theorem gather_any (PL : List (Value × List Oq)) (B c : Nat) (hl : PL.length ≤ 10) (ht : (flatO PL).length ≤ 100) (w : World)
    (hp : ∀ k (h : k < PL.length), w.cell? ⟨B, k, none⟩ = some PL[k].1 ∧ PartO w PL[k].1 PL[k].2) (hB : B < w.heap.size) :
    Calls Tryz.prog 135 #[.slice (some ⟨B, 0, none⟩) PL.length c] w (OpsPost w (flatO PL)) := by
  have HP := Lib.hid hp
  clear hp
  have HT := Lib.hid ht
  clear ht
  go_enter Tryz.func135, Tryz.ntmps135
  go_wp2_with fail
  go_loopw [2, 7] (fun v i wr => ∃ k : Nat, k ≤ PL.length ∧ i = .int .i64 k ∧ OwnsO wr w.heap.size v (flatO (PL.take k)) ∧ Below w.heap.size w wr) (fun _ i _ => PL.length - (intOf i).toNat)
  case atStart => exact ⟨0, by omega, rfl, by simpa [flatO] using OwnsO.nil w w.heap.size, Below.refl _ _⟩
  case round =>
    obtain ⟨k, hk, rfl, hown, hbr⟩ := hrel
    by_cases hlt : k < PL.length
    · obtain ⟨h1, h2⟩ := HP.out k hlt
      have h3 := h2.below hbr
      obtain ⟨g, c2, hv, hg, hc⟩ := h3
      have h4 : wr.cell? ⟨B, k, none⟩ = some (.slice (some ⟨g, 0, none⟩) (PL[k].2).length c2) := ((hbr.cell (p := ⟨B, k, none⟩) hB).trans h1).trans (by rw [hv])
      have hsn := flatO_snoc PL k hlt
      have hle := flatO_len PL (k + 1)
      rw [hsn, List.length_append] at hle
      have ht := HT.out
      have HC := Lib.hid hc
      have HO := Lib.hid hown
      have HS := Lib.hid hsn
      clear h1 h2 hv hc hsn hown
      have hle2 : (flatO (PL.take k)).length + (PL[k].2).length ≤ 100 := by omega
      clear hle ht
      generalize PL[k].2 = M at *
      generalize flatO (PL.take k) = L at *
      have hbz := hbr.size
      go_wp2_with (refine wpList_appendO rfl (.tmp 11) (.tmp 12) rfl w.heap.size _ L rfl HO.out g c2 M rfl HC.out hle2 hbz w hbr ?_; intro v7 w7 own7 B7)
      exact ⟨⟨k + 1, by omega, by go_num, by rw [HS.out]; exact own7, B7⟩, by simp [intOf]; omega⟩
    · have hk2 : k = PL.length := by omega
      subst hk2
      rw [List.take_length] at hown
      go_wp2
      go_ret
      exact ⟨_, rfl, hown, hbr⟩
/-- the ops that make a bank fresh -/
def freshL (b : Int) (kill : Bool) (g q d : Nat) : List Oq :=
  (if kill then [⟨1, b, 0, ⟨#[0, 0]⟩⟩] else []) ++ [⟨2, b, 0, ⟨#[]⟩⟩] ++ writeL b 1 3 q d ++ writeL b 0 1 g 0

theorem one_part (w : World) (o : Oq) : PartO (w.alloc (.cells #[.int .i64 o.kind, .int .i64 o.bank, .int .i64 o.at_, .string o.data] 161)) (.slice (some ⟨w.heap.size, 0, none⟩) 1 1) [o] :=
  (OwnsO.lit w w.heap.size [o] (Nat.le_refl _) (by simp)).part (by simp)
theorem one_cells (w : World) (o : Oq) : ∀ j u, (ocells [o])[j]? = some u → (w.alloc (.cells #[.int .i64 o.kind, .int .i64 o.bank, .int .i64 o.at_, .string o.data] 161)).cell? ⟨w.heap.size, j, none⟩ = some u := by
  obtain ⟨g, c, hv, _, h⟩ := one_part w o
  cases hv
  exact h

theorem gather3 (w : World) (v0 v1 v2 : Value) (L0 L1 L2 : List Oq) (p0 : PartO w v0 L0) (p1 : PartO w v1 L1) (p2 : PartO w v2 L2) (hl : L0.length + L1.length + L2.length ≤ 100) :
    Calls Tryz.prog 135 #[.slice (some ⟨w.heap.size, 0, none⟩) 3 3] (w.alloc (.cells #[v0, v1, v2] 121)) (OpsPost (w.alloc (.cells #[v0, v1, v2] 121)) (L0 ++ L1 ++ L2)) := by
  have k := Blk.new w 121 #[v0, v1, v2]
  have hb : Below w.heap.size w (w.alloc (.cells #[v0, v1, v2] 121)) := (Below.refl _ w).alloc (Nat.le_refl _) _
  have h := gather_any [(v0, L0), (v1, L1), (v2, L2)] w.heap.size 3 (by simp) (by simp [flatO]; omega) (w.alloc (.cells #[v0, v1, v2] 121)) (by
    intro j hj
    match j, hj with
    | 0, _ => exact ⟨k.cell 0, p0.below hb⟩
    | 1, _ => exact ⟨k.cell 1, p1.below hb⟩
    | 2, _ => exact ⟨k.cell 2, p2.below hb⟩) k.lt
  have e : flatO [(v0, L0), (v1, L1), (v2, L2)] = L0 ++ L1 ++ L2 := by simp [flatO]
  rw [e] at h
  exact h

set_option maxRecDepth 100000 in
set_option maxHeartbeats 4000000 in
theorem Fresh_any (b : Int) (kill : Bool) (g q d : Nat) (hg : g < 18446744073709551616) (hq : q < 18446744073709551616) (hd : d < 18446744073709551616) (w : World) :
    Calls Tryz.prog 115 #[.int .i64 b, .bool kill, .int .u64 (g : Int), .int .u64 (q : Int), .int .u64 (d : Int)] w (OpsPost w (freshL b kill g q d)) := by
  have h0 := program_plan b 0 ⟨#[0, 0]⟩
  have h1 := write_plan b 1 3 q d (by decide) hq hd
  have h2 := write_plan b 0 1 g 0 (by decide) hg (by decide)
  have k0 := Blk.new w 191 #[.int .i64 b]
  have B0 : Below w.heap.size w (w.alloc (.cells #[.int .i64 b] 191)) := (Below.refl _ w).alloc (Nat.le_refl _) _
  unfold OpsPost at h1 h2
  have e1 : writeL b 1 3 q d = [⟨1, b, atL 1, bodyB 3 q d⟩, ⟨1, b, markL 1, ⟨#[90, 60]⟩⟩] := rfl
  have n1 : (writeL b 1 3 q d).length = 2 := rfl
  have n2 : (writeL b 0 1 g 0).length = 2 := rfl
  have m1 : writeL b 1 3 q d ≠ [] := by intro h; rw [h] at n1; cases n1
  have m2 : writeL b 0 1 g 0 ≠ [] := by intro h; rw [h] at n2; cases n2
  have hF : freshL b kill g q d = (if kill then [⟨1, b, 0, ⟨#[0, 0]⟩⟩] else []) ++ [⟨2, b, 0, ⟨#[]⟩⟩] ++ writeL b 1 3 q d ++ writeL b 0 1 g 0 := rfl
  have HF := Lib.hid hF
  clear hF e1
  generalize writeL b 1 3 q d = L1 at *
  generalize writeL b 0 1 g 0 = L2 at *
  generalize freshL b kill g q d = R at *
  unfold recV at h1 h2
  simp only [show ((0 : Nat) : Int) = 0 from rfl] at h2
  cases kill
  · go_enter Tryz.func115, Tryz.ntmps115
    go_wp2_with (refine wpList_appendO rfl (.tmp 21) (.tmp 24) rfl (w.heap.size + 1) _ [] rfl (OwnsO.nil _ _) (w.heap.size + 1) 1 [⟨2, b, 0, ⟨#[]⟩⟩] rfl (by have h := one_cells (w.alloc (.cells #[.int .i64 b] 191)) ⟨2, b, 0, ⟨#[]⟩⟩; rw [World.size_alloc] at h; exact h) (by simp) (by simp) (w.alloc (.cells #[.int .i64 b] 191)) ((Below.refl _ _).alloc (by simp) _) ?_; intro v8 w8 own8 B8)
    have k8 : Blk w8 w.heap.size 191 #[.int .i64 b] := k0.below B8 (Nat.lt_succ_self _)
    have c8 : w8.cell? ⟨w.heap.size, 0, none⟩ = some (.int .i64 b) := k8.cell 0
    have own8' : OwnsO w8 (w.heap.size + 1) v8 [⟨2, b, 0, ⟨#[]⟩⟩] := own8
    have p8 : PartO w8 v8 [⟨2, b, 0, ⟨#[]⟩⟩] := own8'.part (by simp)
    obtain ⟨g8, c8', hv8, _⟩ := own8'.part (by simp)
    replace hv8 : v8 = .slice (some ⟨g8, 0, none⟩) 1 c8' := hv8
    subst hv8
    clear own8'
    clear k8 own8 h0 k0
    go_region_held3 (fun w' => w'.cell? ⟨w.heap.size, 0, none⟩ = some (.int .i64 b))
      (first | go_keep | (refine cells_down (by assumption) ?_; simp [*]))
      (first | ((with_reducible refine (h1 _).mono ?_); rintro e1 w9 ⟨x1, rfl, own9, b9⟩; have p9 := own9.part m1; obtain ⟨g9, c9, hv9, _⟩ := own9.part m1; rw [n1] at hv9; subst hv9; clear own9; have b9' : Below w8.heap.size w8 w9 := ⟨b9.os, b9.tape, b9.output, b9.size, b9.block⟩; have p89 := p8.below b9') | ((with_reducible refine (h2 _).mono ?_); rintro e1 w10 ⟨x2, rfl, own10, b10⟩; have p10 := own10.part m2; obtain ⟨g10, c10, hv10, _⟩ := own10.part m2; rw [n2] at hv10; subst hv10; clear own10; have p8a := p89.below b10; have p9a := p9.below b10) | ((with_reducible refine (gather3 w10 _ _ _ [⟨2, b, 0, ⟨#[]⟩⟩] L1 L2 p8a p9a p10 (by rw [n1, n2]; simp)).mono ?_); rintro e1 w12 ⟨v12, rfl, own12, b12⟩))
    have B10 : Below w.heap.size w w10 := bthen (bthen (B0.trans (B8.mono (Nat.le_succ _))) b9') b10
    have B11 := B10.alloc B10.size (.cells #[.slice (some ⟨g8, 0, none⟩) 1 c8', .slice (some ⟨g9, 0, none⟩) 2 c9, .slice (some ⟨g10, 0, none⟩) 2 c10] 121)
    have B12 := bthen B11 b12
    have ownR : OwnsO w12 w.heap.size v12 R := by
      rw [HF.out]
      exact own12.base B11.size
    clear own12 b12 B10 B11 b9' b10 p8 p9 p10 p89 p8a p9a c8 B8 B0 h1 h2
    go_wp2
    go_ret
    exact ⟨_, rfl, ownR, B12⟩
  · go_enter Tryz.func115, Tryz.ntmps115
    go_wp2_with (first | (with_reducible refine (h0 _).mono ?_; rintro e w1 ⟨rfl, q1⟩; (have hz1 : w.heap.size + 1 ≤ w1.heap.size := (by have := q1.size; simpa using this); have hb1 : Below (w.heap.size + 1) (w.alloc (.cells #[.int .i64 b] 191)) w1 := q1.mono (by simp); clear q1)) | (refine wpList_appendO rfl (.tmp 16) (.tmp 19) rfl (w.heap.size + 1) _ [] rfl (OwnsO.nil _ _) w1.heap.size 1 [⟨1, b, 0, ⟨#[0, 0]⟩⟩] rfl (one_cells w1 ⟨1, b, 0, ⟨#[0, 0]⟩⟩) (by simp) (Nat.le_trans hz1 (by simp)) (w.alloc (.cells #[.int .i64 b] 191)) (hb1.alloc hz1 _) ?_; intro v7 w7 own7 B7; have hz7 : w.heap.size + 1 ≤ w7.heap.size := (by have := B7.size; simpa using this)) | (refine wpList_appendO rfl (.tmp 21) (.tmp 24) rfl (w.heap.size + 1) v7 [⟨1, b, 0, ⟨#[0, 0]⟩⟩] rfl (own7.below ((Below.refl _ w7).alloc (Nat.le_refl _) _)) w7.heap.size 1 [⟨2, b, 0, ⟨#[]⟩⟩] rfl (one_cells w7 ⟨2, b, 0, ⟨#[]⟩⟩) (by simp) (Nat.le_trans hz7 (by simp)) (w.alloc (.cells #[.int .i64 b] 191)) (B7.alloc hz7 _) ?_; intro v8 w8 own8 B8))
    have k8 : Blk w8 w.heap.size 191 #[.int .i64 b] := k0.below B8 (Nat.lt_succ_self _)
    have c8 : w8.cell? ⟨w.heap.size, 0, none⟩ = some (.int .i64 b) := k8.cell 0
    have own8' : OwnsO w8 (w.heap.size + 1) v8 [⟨1, b, 0, ⟨#[0, 0]⟩⟩, ⟨2, b, 0, ⟨#[]⟩⟩] := own8
    have p8 : PartO w8 v8 [⟨1, b, 0, ⟨#[0, 0]⟩⟩, ⟨2, b, 0, ⟨#[]⟩⟩] := own8'.part (by simp)
    obtain ⟨g8, c8', hv8, _⟩ := own8'.part (by simp)
    replace hv8 : v8 = .slice (some ⟨g8, 0, none⟩) 2 c8' := hv8
    subst hv8
    clear own8'
    clear k8 own8 h0 k0
    go_region_held3 (fun w' => w'.cell? ⟨w.heap.size, 0, none⟩ = some (.int .i64 b))
      (first | go_keep | (refine cells_down (by assumption) ?_; simp [*]))
      (first | ((with_reducible refine (h1 _).mono ?_); rintro e1 w9 ⟨x1, rfl, own9, b9⟩; have p9 := own9.part m1; obtain ⟨g9, c9, hv9, _⟩ := own9.part m1; rw [n1] at hv9; subst hv9; clear own9; have b9' : Below w8.heap.size w8 w9 := ⟨b9.os, b9.tape, b9.output, b9.size, b9.block⟩; have p89 := p8.below b9') | ((with_reducible refine (h2 _).mono ?_); rintro e1 w10 ⟨x2, rfl, own10, b10⟩; have p10 := own10.part m2; obtain ⟨g10, c10, hv10, _⟩ := own10.part m2; rw [n2] at hv10; subst hv10; clear own10; have p8a := p89.below b10; have p9a := p9.below b10) | ((with_reducible refine (gather3 w10 _ _ _ [⟨1, b, 0, ⟨#[0, 0]⟩⟩, ⟨2, b, 0, ⟨#[]⟩⟩] L1 L2 p8a p9a p10 (by rw [n1, n2]; simp)).mono ?_); rintro e1 w12 ⟨v12, rfl, own12, b12⟩))
    have B10 : Below w.heap.size w w10 := bthen (bthen (B0.trans (B8.mono (Nat.le_succ _))) b9') b10
    have B11 := B10.alloc B10.size (.cells #[.slice (some ⟨g8, 0, none⟩) 2 c8', .slice (some ⟨g9, 0, none⟩) 2 c9, .slice (some ⟨g10, 0, none⟩) 2 c10] 121)
    have B12 := bthen B11 b12
    have ownR : OwnsO w12 w.heap.size v12 R := by
      rw [HF.out]
      exact own12.base B11.size
    clear own12 b12 B10 B11 b9' b10 p8 p9 p10 p89 p8a p9a c8 B8 B0 h1 h2
    go_wp2
    go_ret
    exact ⟨_, rfl, ownR, B12⟩
end Go.Proofs.YtebkeocpojlepaaGreatDoor

/- plan.worn, fresh, first. -/
namespace Go.Proofs.YtebkeocpojlepaaGreatDoor
open Go.RowKit
set_option linter.unusedVariables false
set_option linter.unusedSimpArgs false

def wornB (f : Fl) (b : Int) : Bool := decide (f.l ≤ f.worn b)
def killB (f : Fl) (b : Int) : Bool := decide (stateS (f.bank b) 0 = 2)

set_option maxRecDepth 100000 in
set_option maxHeartbeats 4000000 in
theorem worn_any (f : Fl) (b : Int) (hb : b = 0 ∨ b = 1) (w : World) :
    Calls Tryz.prog 93 #[flV f, .int .i64 b] w fun e w' => e = .returned (.bool (wornB f b)) ∧ Below w.heap.size w w' := by
  have hR : wornB f b = decide (f.l ≤ f.worn b) := rfl
  obtain ⟨fa, fb, fx, fy, fl⟩ := f
  have k0 := Blk.new w 30 #[.string fa, .string fb, .int .i64 fx, .int .i64 fy, .int .i64 fl]
  have B0 : Below w.heap.size w (w.alloc (.cells #[.string fa, .string fb, .int .i64 fx, .int .i64 fy, .int .i64 fl] 30)) := (Below.refl _ w).alloc (Nat.le_refl _) _
  rcases hb with rfl | rfl
  all_goals
    simp only [Fl.worn, if_true, show ((1 : Int) = 0) = False from by decide, if_false] at hR
    have HR := Lib.hid hR
    clear hR
    generalize wornB _ _ = R at *
    go_enter Tryz.func93, Tryz.ntmps93
    go_wp2_with fail
    generalize World.alloc w _ = W0 at *
    have c2 : ∀ m : CalmW W0.heap.size W0, m.val.cell? ⟨w.heap.size, 2, none⟩ = some (.int .i64 fx) := fun m => (k0.below m.below k0.lt).cell 2
    have c3 : ∀ m : CalmW W0.heap.size W0, m.val.cell? ⟨w.heap.size, 3, none⟩ = some (.int .i64 fy) := fun m => (k0.below m.below k0.lt).cell 3
    have c4 : ∀ m : CalmW W0.heap.size W0, m.val.cell? ⟨w.heap.size, 4, none⟩ = some (.int .i64 fl) := fun m => (k0.below m.below k0.lt).cell 4
    (refine wp_region_calm (W0.heap.size) (by kernel_rfl) (by kernel_rfl) ?_; (repeat (go_big_quiet_step (fail))); refine wpQuiet_nil ?_; intro W2 hw'; obtain ⟨⟨_, hW2⟩, hw''⟩ := hw'; subst hw'')
    have B2 := bthen B0 hW2
    clear c2 c3 c4
    go_wp2
    go_ret
    exact ⟨ret_bool (by rw [HR.out]), B2⟩

set_option maxRecDepth 100000 in
set_option maxHeartbeats 4000000 in
theorem fresh_any (f : Fl) (hf : f.ok) (b : Int) (hb : b = 0 ∨ b = 1) (g q d : Nat) (hg : g < 18446744073709551616) (hq : q < 18446744073709551616) (hd : d < 18446744073709551616) (w : World) :
    Calls Tryz.prog 94 #[flV f, .int .i64 b, .int .u64 (g : Int), .int .u64 (q : Int), .int .u64 (d : Int)] w (OpsPost w (freshL b (killB f b) g q d)) := by
  obtain ⟨hl0, hl1⟩ := flash_lens hf
  have hL : (f.bank b).size ≤ maxLen := by
    rcases hb with rfl | rfl
    · exact hl0
    · exact hl1
  have h1 := State_any (f.bank b) 0 hL
  have h2 := Fresh_any b (killB f b) g q d hg hq hd
  unfold OpsPost at h2
  have hK : (stateS (f.bank b) 0 == 2) = killB f b := by unfold killB; exact Bool.beq_eq_decide_eq _ _
  generalize freshL b (killB f b) g q d = R at *
  generalize stateS (f.bank b) 0 = S at *
  generalize killB f b = K0 at *
  obtain ⟨fa, fb, fx, fy, fl⟩ := f
  have k0 := Blk.new w 30 #[.string fa, .string fb, .int .i64 fx, .int .i64 fy, .int .i64 fl]
  have B0 : Below w.heap.size w (w.alloc (.cells #[.string fa, .string fb, .int .i64 fx, .int .i64 fy, .int .i64 fl] 30)) := (Below.refl _ w).alloc (Nat.le_refl _) _
  rcases hb with rfl | rfl
  all_goals
    simp only [Fl.bank, if_true, show ((1 : Int) = 0) = False from by decide, if_false] at h1
    go_enter Tryz.func94, Tryz.ntmps94
    go_wp2_with fail
    go_wp2_with (first | (with_reducible refine (h1 _).mono ?_; rintro e w1 ⟨rfl, q1⟩) | (with_reducible refine (h2 _).mono ?_; rintro e w2 ⟨v, rfl, own2, q2⟩))
    go_ret
    have B2 := bthen (bthen B0 q1) q2
    exact ⟨v, rfl, own2.base (Nat.le_trans B0.size q1.size), B2⟩
def firstL (f : Fl) (d : Nat) : List Oq := if wornB f 0 = false then freshL 0 (killB f 0) 1 1 d else if wornB f 1 = false then freshL 1 (killB f 1) 1 1 d else []
def firstE (f : Fl) : Int := if wornB f 0 = false then 0 else if wornB f 1 = false then 0 else 4

def PlanPost (w : World) (L : List Oq) (E : Int) (e : Ending) (w' : World) : Prop := ∃ v, e = .returned (.tuple #[v, .int .i64 E]) ∧ OwnsO w' w.heap.size v L ∧ Below w.heap.size w w'
abbrev flCell (W : World) (B : Nat) (f : Fl) : Prop := Blk W B 30 (flC f)

set_option maxRecDepth 100000 in
set_option maxHeartbeats 4000000 in
theorem first_any (f : Fl) (hf : f.ok) (d : Nat) (hd : d < 18446744073709551616) (w : World) :
    Calls Tryz.prog 89 #[flV f, .int .u64 (d : Int)] w (PlanPost w (firstL f d) (firstE f)) := by
  have h0 := worn_any f 0 (.inl rfl)
  have h1 := worn_any f 1 (.inr rfl)
  have h2 := fresh_any f hf 0 (.inl rfl) 1 1 d (by decide) (by decide) hd
  have h3 := fresh_any f hf 1 (.inr rfl) 1 1 d (by decide) (by decide) hd
  unfold OpsPost at h2 h3
  simp only [show ((1 : Nat) : Int) = 1 from rfl] at h2 h3
  have hL : firstL f d = if wornB f 0 = false then freshL 0 (killB f 0) 1 1 d else if wornB f 1 = false then freshL 1 (killB f 1) 1 1 d else [] := rfl
  have hE : firstE f = if wornB f 0 = false then 0 else if wornB f 1 = false then 0 else 4 := rfl
  have HL := Lib.hid hL
  have HE := Lib.hid hE
  clear hL hE
  generalize firstL f d = RL at *
  generalize firstE f = RE at *
  generalize freshL 0 (killB f 0) 1 1 d = L0 at *
  generalize freshL 1 (killB f 1) 1 1 d = L1 at *
  generalize wornB f 0 = W0 at *
  generalize wornB f 1 = W1 at *
  have k0 := Blk.new w 30 (flC f)
  have B0 : Below w.heap.size w (w.alloc (.cells (flC f) 30)) := (Below.refl _ w).alloc (Nat.le_refl _) _
  obtain ⟨fa, fb, fx, fy, fl⟩ := f
  go_enter Tryz.func89, Tryz.ntmps89
  go_wp2_with fail
  generalize World.alloc w _ = W9 at *
  go_loopw [7] (fun i wr => ∃ k : Nat, k ≤ 2 ∧ i = .int .i64 k ∧ (0 < k → W0 = true) ∧ (1 < k → W1 = true) ∧ Blk wr w.heap.size 30 #[.string fa, .string fb, .int .i64 fx, .int .i64 fy, .int .i64 fl] ∧ Below w.heap.size w wr) (fun i _ => 2 - (intOf i).toNat)
  case atStart => exact ⟨0, by omega, rfl, by omega, by omega, k0, B0⟩
  case round =>
    obtain ⟨k, hk, rfl, hw0, hw1, hbF, hbr⟩ := hrel
    have HW0 := Lib.hid hw0
    have HW1 := Lib.hid hw1
    clear hw0 hw1
    obtain rfl | rfl | rfl : k = 0 ∨ k = 1 ∨ k = 2 := by omega
    ·
      have kF := hbF
      have x_0 := kF.cell 0
      have x_1 := kF.cell 1
      have x_2 := kF.cell 2
      have x_3 := kF.cell 3
      have x_4 := kF.cell 4
      simp at x_0 x_1 x_2 x_3 x_4
      cases W0
      · go_wp2_with (first | (with_reducible refine (h0 _).mono ?_; rintro e w1 ⟨rfl, q1⟩; (have kF1 := kF.below q1 kF.lt; have B1 := bthen hbr q1; have y_0 := kF1.cell 0; have y_1 := kF1.cell 1; have y_2 := kF1.cell 2; have y_3 := kF1.cell 3; have y_4 := kF1.cell 4; simp at y_0 y_1 y_2 y_3 y_4; clear kF q1 hbr hbF)) | (with_reducible refine (h2 _).mono ?_; rintro e w2 ⟨v, rfl, own2, q2⟩))
        go_ret2
        exact ⟨v, by rw [HE.out]; rfl, by rw [HL.out]; exact own2.base B1.size, bthen B1 q2⟩
      · go_wp2_with (first | (with_reducible refine (h0 _).mono ?_; rintro e w1 ⟨rfl, q1⟩; (have kF1 := kF.below q1 kF.lt; have B1 := bthen hbr q1; have y_0 := kF1.cell 0; have y_1 := kF1.cell 1; have y_2 := kF1.cell 2; have y_3 := kF1.cell 3; have y_4 := kF1.cell 4; simp at y_0 y_1 y_2 y_3 y_4; clear kF q1 hbr hbF)) | (with_reducible refine (h2 _).mono ?_; rintro e w2 ⟨v, rfl, own2, q2⟩))
        exact ⟨⟨1, by omega, rfl, fun _ => trivial, by omega, kF1, B1⟩, by simp [intOf]⟩
    ·
      have kF := hbF
      have x_0 := kF.cell 0
      have x_1 := kF.cell 1
      have x_2 := kF.cell 2
      have x_3 := kF.cell 3
      have x_4 := kF.cell 4
      simp at x_0 x_1 x_2 x_3 x_4
      have e0 : W0 = true := HW0.out (by omega)
      subst e0
      cases W1
      · go_wp2_with (first | (with_reducible refine (h1 _).mono ?_; rintro e w1 ⟨rfl, q1⟩; (have kF1 := kF.below q1 kF.lt; have B1 := bthen hbr q1; have y_0 := kF1.cell 0; have y_1 := kF1.cell 1; have y_2 := kF1.cell 2; have y_3 := kF1.cell 3; have y_4 := kF1.cell 4; simp at y_0 y_1 y_2 y_3 y_4; clear kF q1 hbr hbF)) | (with_reducible refine (h3 _).mono ?_; rintro e w2 ⟨v, rfl, own2, q2⟩))
        go_ret2
        exact ⟨v, by rw [HE.out]; rfl, by rw [HL.out]; exact own2.base B1.size, bthen B1 q2⟩
      · go_wp2_with (first | (with_reducible refine (h1 _).mono ?_; rintro e w1 ⟨rfl, q1⟩; (have kF1 := kF.below q1 kF.lt; have B1 := bthen hbr q1; have y_0 := kF1.cell 0; have y_1 := kF1.cell 1; have y_2 := kF1.cell 2; have y_3 := kF1.cell 3; have y_4 := kF1.cell 4; simp at y_0 y_1 y_2 y_3 y_4; clear kF q1 hbr hbF)) | (with_reducible refine (h3 _).mono ?_; rintro e w2 ⟨v, rfl, own2, q2⟩))
        exact ⟨⟨2, by omega, rfl, fun _ => trivial, fun _ => trivial, kF1, B1⟩, by simp [intOf]⟩
    · have e0 : W0 = true := HW0.out (by omega)
      have e1 : W1 = true := HW1.out (by omega)
      subst e0 e1
      go_wp2
      go_ret2
      exact ⟨_, by rw [HE.out]; rfl, by rw [HL.out]; exact OwnsO.nil _ _, hbr⟩
end Go.Proofs.YtebkeocpojlepaaGreatDoor

/- plan.Plan. -/
namespace Go.Proofs.YtebkeocpojlepaaGreatDoor
open Go.RowKit
set_option linter.unusedVariables false
set_option linter.unusedSimpArgs false

theorem dec_lt (s : ByteArray) : decN s < 18446744073709551616 ∧ decD s < 18446744073709551616 := by
  unfold decN decD dec
  by_cases h : s.size = 24
  · have h1 := get8 (s.extract 2 10) (by simp; omega)
    have h2 := get8 (s.extract 10 18) (by simp; omega)
    repeat' split
    all_goals first | exact ⟨by decide, by decide⟩ | exact ⟨h1, h2⟩
  · rw [if_pos h]; exact ⟨by decide, by decide⟩
theorem genN_lt (s : ByteArray) : genN s < 18446744073709551616 := by unfold genN; split; exact (dec_lt _).1; decide
theorem oN_lt (s : ByteArray) (o : Option Nat) : oN s o < 18446744073709551616 := by
  cases o
  · simp [oN]
  · exact (dec_lt _).1
theorem oD_lt (s : ByteArray) (o : Option Nat) : oD s o < 18446744073709551616 := by
  cases o
  · simp [oD]
  · exact (dec_lt _).2
def Ps.lt (p : Ps) : Prop := p.gen < 18446744073709551616 ∧ p.seq < 18446744073709551616 ∧ p.dat < 18446744073709551616
theorem ofP_lt (s : ByteArray) (i : Int) : (ofP s i).lt := by
  unfold ofP; split
  · exact ⟨genN_lt _, oN_lt _ _, oD_lt _ _⟩
  · exact ⟨by decide, by decide, by decide⟩
theorem best_lt (f : Fl) : (bestV f).lt := by
  unfold bestV bestP; repeat' split
  all_goals exact ofP_lt _ _
theorem read_lt (f : Fl) : (readV f).lt := by
  unfold readV; split
  · exact ⟨by decide, by decide, by decide⟩
  · exact best_lt f

/-- the plan, from what the flash says -/
def nextL (f : Fl) (s : Ps) (d : Nat) : List Oq :=
  if s.seq = 18446744073709551615 then [] else if 0 < nextS (f.bank s.bank) then writeL s.bank (nextS (f.bank s.bank)) 2 (s.seq + 1) d
  else if s.gen = 18446744073709551615 then [] else if wornB f (1 - s.bank) = true then [] else freshL (1 - s.bank) (killB f (1 - s.bank)) (s.gen + 1) (s.seq + 1) d
def nextE (f : Fl) (s : Ps) : Int :=
  if s.seq = 18446744073709551615 then 11 else if 0 < nextS (f.bank s.bank) then 0
  else if s.gen = 18446744073709551615 then 11 else if wornB f (1 - s.bank) = true then 4 else 0
def planL (f : Fl) (d : Nat) : List Oq := if evenF f = false then [] else if readE f ≠ 0 then firstL f d else nextL f (readV f) d
def planE (f : Fl) : Int := if evenF f = false then 1 else if readE f ≠ 0 then firstE f else nextE f (readV f)

set_option maxRecDepth 100000 in
set_option maxHeartbeats 4000000 in
theorem Plan_any (f : Fl) (hf : f.ok) (d : Nat) (hd : d < 18446744073709551616) (w : World) (hN : NoneG w) :
    Calls Tryz.prog 63 #[flV f, .int .u64 (d : Int)] w (PlanPost w (planL f d) (planE f)) := by
  have hE := Even_any f hf
  have hRd := Read_pick f hf
  have hL : planL f d = if evenF f = false then [] else if readE f ≠ 0 then firstL f d else nextL f (readV f) d := rfl
  have hEr : planE f = if evenF f = false then 1 else if readE f ≠ 0 then firstE f else nextE f (readV f) := rfl
  have hF := first_any f hf d hd
  unfold PlanPost at hF
  have kF := Blk.new w 30 (flC f)
  have B0 : Below w.heap.size w (w.alloc (.cells (flC f) 30)) := (Below.refl _ w).alloc (Nat.le_refl _) _
  by_cases hev : evenF f = false
  · rw [if_pos hev] at hL hEr
    rw [hev] at hE
    rw [hL, hEr]
    clear hL hEr hF hRd hev
    obtain ⟨fa, fb, fx, fy, fl⟩ := f
    go_enter Tryz.func63, Tryz.ntmps63
    go_wp2_with (with_reducible refine (hE _).mono ?_; rintro e w1 ⟨rfl, q1⟩)
    go_ret2
    exact ⟨_, rfl, OwnsO.nil _ _, bthen B0 q1⟩
  · rw [if_neg hev] at hL hEr
    have hev1 : evenF f = true := by simpa using hev
    rw [hev1] at hE
    clear hev hev1
    rcases read_cases f with ⟨hr1, hr2, _⟩ | ⟨hr1, hr2, _, hb⟩
    · rw [hr1] at hL hEr hRd
      rw [if_pos (by decide)] at hL hEr
      rw [hr2] at hRd
      rw [hL, hEr]
      clear hL hEr hr1 hr2
      generalize firstL f d = RL at *
      generalize firstE f = RE at *
      obtain ⟨fa, fb, fx, fy, fl⟩ := f
      go_enter Tryz.func63, Tryz.ntmps63
      go_wp2_with (first | (with_reducible refine (hE _).mono ?_; rintro e w1 ⟨rfl, q1⟩; (have kF1 := kF.below q1 kF.lt; have B1 := bthen B0 q1; have y_0 := kF1.cell 0; have y_1 := kF1.cell 1; have y_2 := kF1.cell 2; have y_3 := kF1.cell 3; have y_4 := kF1.cell 4; simp at y_0 y_1 y_2 y_3 y_4; clear q1)) | (with_reducible refine (hRd _ (hN.below B1)).mono ?_; rintro e w2 ⟨rfl, q2⟩; (have kF2 := kF1.below q2 kF1.lt; have B2 := bthen B1 q2; have hz2 := kF2.lt; have z_0 := kF2.cell 0; have z_1 := kF2.cell 1; have z_2 := kF2.cell 2; have z_3 := kF2.cell 3; have z_4 := kF2.cell 4; simp at z_0 z_1 z_2 z_3 z_4; clear q2)) | (with_reducible refine (hF _).mono ?_; rintro e w4 ⟨v, rfl, own4, q4⟩))
      go_ret2
      have B3 := (B2.alloc (Nat.le_of_lt hz2) (.cells (psC ⟨0, 0, 0, 0⟩) 74))
      exact ⟨v, rfl, own4.base B3.size, bthen B3 q4⟩
    · rw [hr1] at hL hEr hRd
      rw [if_neg (by decide)] at hL hEr
      have hlt := read_lt f
      rw [hr2] at hL hEr hRd hlt
      rw [hL, hEr]
      clear hL hEr hr1 hr2 hF
      obtain ⟨g, q, dd, hbest⟩ : ∃ g q dd, bestV f = ⟨(bestV f).bank, g, q, dd⟩ := ⟨_, _, _, rfl⟩
      obtain ⟨hg, hq, _⟩ := hlt
      have hL : (f.bank (bestV f).bank).size ≤ maxLen := by
        obtain ⟨hl0, hl1⟩ := flash_lens hf
        rcases hb with e | e
        · rw [e]; exact hl0
        · rw [e]; exact hl1
      have hX := Next_any (f.bank (bestV f).bank) hL
      rcases hb with e | e
      · rw [e] at hbest hX
        rw [hbest] at hRd hg hq ⊢
        simp only [] at hg hq
        clear hbest e hL
        have hO := fun W => other_ix W 0 (.inl rfl)
        have hW := worn_any f 1 (.inr rfl)
        have hG := fun (G Q : Nat) (h1 : G < 18446744073709551616) (h2 : Q < 18446744073709551616) => fresh_any f hf 1 (.inr rfl) G Q d h1 h2 hd
        have hA := fun (p : Int) (Q : Nat) (h2 : Q < 18446744073709551616) => Append_any 0 p Q d h2 hd
        unfold OpsPost at hG hA
        simp only [show (1 : Int) - 0 = 1 from rfl] at hO
        have hNL : nextL f ⟨0, g, q, dd⟩ d = if q = 18446744073709551615 then [] else if 0 < nextS (f.bank 0) then writeL 0 (nextS (f.bank 0)) 2 (q + 1) d else if g = 18446744073709551615 then [] else if wornB f 1 = true then [] else freshL 1 (killB f 1) (g + 1) (q + 1) d := rfl
        have hNE : nextE f ⟨0, g, q, dd⟩ = if q = 18446744073709551615 then 11 else if 0 < nextS (f.bank 0) then 0 else if g = 18446744073709551615 then 11 else if wornB f 1 = true then 4 else 0 := rfl
        have HNL := Lib.hid hNL
        have HNE := Lib.hid hNE
        clear hNL hNE
        generalize nextL f ⟨0, g, q, dd⟩ d = RL at *
        generalize nextE f ⟨0, g, q, dd⟩ = RE at *
        generalize nextS (f.bank 0) = slot at *
        obtain ⟨fa, fb, fx, fy, fl⟩ := f
        have hX' : ∀ (w : World), Calls Tryz.prog 91 #[.string fa] w fun e w' => e = .returned (.int .i64 slot) ∧ Below w.heap.size w w' := hX
        clear hX
        go_enter Tryz.func63, Tryz.ntmps63
        go_wp2_with (first | (with_reducible refine (hE _).mono ?_; rintro e w1 ⟨rfl, q1⟩; (have kF1 := kF.below q1 kF.lt; have B1 := bthen B0 q1; have y_0 := kF1.cell 0; have y_1 := kF1.cell 1; have y_2 := kF1.cell 2; have y_3 := kF1.cell 3; have y_4 := kF1.cell 4; simp at y_0 y_1 y_2 y_3 y_4; clear q1)) | (with_reducible refine (hRd _ (hN.below B1)).mono ?_; rintro e w2 ⟨rfl, q2⟩; (have kF2 := kF1.below q2 kF1.lt; have B2 := bthen B1 q2; have hz2 := kF2.lt; have z_0 := kF2.cell 0; have z_1 := kF2.cell 1; have z_2 := kF2.cell 2; have z_3 := kF2.cell 3; have z_4 := kF2.cell 4; simp at z_0 z_1 z_2 z_3 z_4; clear q2)))
        have kF3 := kF2.alloc (.cells (psC ⟨0, g, q, dd⟩) 74)
        have j3 := Blk.new w2 74 (psC ⟨0, g, q, dd⟩)
        have B3 := (B2.alloc (Nat.le_of_lt hz2) (.cells (psC ⟨0, g, q, dd⟩) 74))
        generalize World.alloc w2 _ = W3 at *
        have c0 : ∀ m : CalmW W3.heap.size W3, m.val.cell? ⟨w.heap.size, 0, none⟩ = some (.string fa) := fun m => (kF3.below m.below kF3.lt).cell 0
        have c1 : ∀ m : CalmW W3.heap.size W3, m.val.cell? ⟨w.heap.size, 1, none⟩ = some (.string fb) := fun m => (kF3.below m.below kF3.lt).cell 1
        have d0 : ∀ m : CalmW W3.heap.size W3, m.val.cell? ⟨w2.heap.size, 0, none⟩ = some (.int .i64 0) := fun m => (j3.below m.below j3.lt).cell 0
        have y3 := kF3.lt
        have y4 := j3.lt
        (refine wp_region_calm (W3.heap.size) (by kernel_rfl) (by kernel_rfl) ?_; (repeat (go_big_quiet_step ((first | (with_reducible refine calm_same (hO _)) | (with_reducible refine calm_of (Nat.le_refl _) (hX' _)))))); refine wpQuiet_nil ?_; intro W4 hw'; obtain ⟨⟨_, hW4⟩, hw''⟩ := hw'; subst hw'')
        have kF4 := kF3.below hW4 kF3.lt
        have j4 := j3.below hW4 j3.lt
        have B4 := bthen B3 hW4
        clear c0 c1 d0 y3 y4 kF3 j3 B3 hW4 kF2 B2 kF1 B1 y_0 y_1 y_2 y_3 y_4 z_0 z_1 z_2 z_3 z_4 hE hRd hO hX'
        have x_0 := kF4.cell 0
        have x_1 := kF4.cell 1
        have x_2 := kF4.cell 2
        have x_3 := kF4.cell 3
        have x_4 := kF4.cell 4
        have u_0 := j4.cell 0
        have u_1 := j4.cell 1
        have u_2 := j4.cell 2
        have u_3 := j4.cell 3
        simp at x_0 x_1 x_2 x_3 x_4 u_0 u_1 u_2 u_3
        by_cases hqm : q = 18446744073709551615
        · subst hqm
          go_wp2
          go_ret2
          exact ⟨_, by rw [HNE.out]; rfl, by rw [HNL.out]; exact OwnsO.nil _ _, B4⟩
        · obtain ⟨Q, hQ⟩ : ∃ Q, Q = q + 1 := ⟨_, rfl⟩
          have hQl : Q < 18446744073709551616 := by omega
          have hQw : IntKind.u64.wrap ((q : Int) + 1) = (Q : Int) := by rw [hQ]; show ((q : Int) + 1) % 18446744073709551616 = _; omega
          rw [← hQ] at HNL
          clear hQ
          have hqm2 : (q == 18446744073709551615) = false := by simpa using hqm
          have HQM := Lib.hid hqm
          by_cases hs : 0 < slot
          · have hs2 : decide (0 < slot) = true := by simpa using hs
            have hA1 := hA slot Q hQl
            go_wp2_with (with_reducible refine (hA1 _).mono ?_; rintro e w6 ⟨v, rfl, own6, q6⟩)
            go_ret2
            exact ⟨v, by rw [HNE.out, if_neg HQM.out, if_pos hs]; rfl, by rw [HNL.out, if_neg HQM.out, if_pos hs]; exact own6.base B4.size, bthen B4 q6⟩
          · have hs2 : decide (0 < slot) = false := by simpa using hs
            have HS := Lib.hid hs
            clear hs
            by_cases hgm : g = 18446744073709551615
            · have HGM := Lib.hid hgm
              have hgm2 : (g == 18446744073709551615) = true := by simpa using hgm
              have hRE : RE = 11 := by rw [HNE.out, if_neg HQM.out, if_neg (fun h => HS.out h), if_pos hgm]
              have hRL : RL = [] := by rw [HNL.out, if_neg HQM.out, if_neg (fun h => HS.out h), if_pos hgm]
              subst hRE hRL
              clear HNE HNL HS HGM HQM
              subst hgm
              go_wp2
              go_ret2
              exact ⟨_, rfl, OwnsO.nil _ _, B4⟩
            · obtain ⟨G, hG0⟩ : ∃ G, G = g + 1 := ⟨_, rfl⟩
              have hGl : G < 18446744073709551616 := by omega
              have hGw : IntKind.u64.wrap ((g : Int) + 1) = (G : Int) := by rw [hG0]; show ((g : Int) + 1) % 18446744073709551616 = _; omega
              rw [← hG0] at HNL
              clear hG0
              have hgm2 : (g == 18446744073709551615) = false := by simpa using hgm
              have HGM := Lib.hid hgm
              have hG1 := hG G Q hGl hQl
              generalize wornB _ _ = WB at *
              cases WB
              · go_wp2_with (first | (with_reducible refine (hW _).mono ?_; rintro e w5 ⟨rfl, q5⟩; (have kF5 := kF4.below q5 kF4.lt; have B5 := bthen B4 q5; have j5 := j4.below q5 j4.lt; have v_0 := kF5.cell 0; have v_1 := kF5.cell 1; have v_2 := kF5.cell 2; have v_3 := kF5.cell 3; have v_4 := kF5.cell 4; have t_0 := j5.cell 0; have t_1 := j5.cell 1; have t_2 := j5.cell 2; have t_3 := j5.cell 3; simp at v_0 v_1 v_2 v_3 v_4 t_0 t_1 t_2 t_3; clear q5)) | (with_reducible refine (hG1 _).mono ?_; rintro e w7 ⟨v, rfl, own7, q7⟩))
                go_ret2
                exact ⟨v, by rw [HNE.out, if_neg HQM.out, if_neg (Int.not_lt.2 HS.out), if_neg HGM.out]; rfl, by rw [HNL.out, if_neg HQM.out, if_neg (Int.not_lt.2 HS.out), if_neg HGM.out]; exact own7.base B5.size, bthen B5 q7⟩
              · go_wp2_with (with_reducible refine (hW _).mono ?_; rintro e w5 ⟨rfl, q5⟩; (have kF5 := kF4.below q5 kF4.lt; have B5 := bthen B4 q5; have j5 := j4.below q5 j4.lt; have v_0 := kF5.cell 0; have v_1 := kF5.cell 1; have v_2 := kF5.cell 2; have v_3 := kF5.cell 3; have v_4 := kF5.cell 4; have t_0 := j5.cell 0; have t_1 := j5.cell 1; have t_2 := j5.cell 2; have t_3 := j5.cell 3; simp at v_0 v_1 v_2 v_3 v_4 t_0 t_1 t_2 t_3; clear q5))
                go_ret2
                exact ⟨_, by rw [HNE.out, if_neg HQM.out, if_neg (Int.not_lt.2 HS.out), if_neg HGM.out]; rfl, by rw [HNL.out, if_neg HQM.out, if_neg (Int.not_lt.2 HS.out), if_neg HGM.out]; exact OwnsO.nil _ _, B5⟩
      · rw [e] at hbest hX
        rw [hbest] at hRd hg hq ⊢
        simp only [] at hg hq
        clear hbest e hL
        have hO := fun W => other_ix W 1 (.inr rfl)
        have hW := worn_any f 0 (.inl rfl)
        have hG := fun (G Q : Nat) (h1 : G < 18446744073709551616) (h2 : Q < 18446744073709551616) => fresh_any f hf 0 (.inl rfl) G Q d h1 h2 hd
        have hA := fun (p : Int) (Q : Nat) (h2 : Q < 18446744073709551616) => Append_any 1 p Q d h2 hd
        unfold OpsPost at hG hA
        simp only [show (1 : Int) - 1 = 0 from rfl] at hO
        have hNL : nextL f ⟨1, g, q, dd⟩ d = if q = 18446744073709551615 then [] else if 0 < nextS (f.bank 1) then writeL 1 (nextS (f.bank 1)) 2 (q + 1) d else if g = 18446744073709551615 then [] else if wornB f 0 = true then [] else freshL 0 (killB f 0) (g + 1) (q + 1) d := rfl
        have hNE : nextE f ⟨1, g, q, dd⟩ = if q = 18446744073709551615 then 11 else if 0 < nextS (f.bank 1) then 0 else if g = 18446744073709551615 then 11 else if wornB f 0 = true then 4 else 0 := rfl
        have HNL := Lib.hid hNL
        have HNE := Lib.hid hNE
        clear hNL hNE
        generalize nextL f ⟨1, g, q, dd⟩ d = RL at *
        generalize nextE f ⟨1, g, q, dd⟩ = RE at *
        generalize nextS (f.bank 1) = slot at *
        obtain ⟨fa, fb, fx, fy, fl⟩ := f
        have hX' : ∀ (w : World), Calls Tryz.prog 91 #[.string fb] w fun e w' => e = .returned (.int .i64 slot) ∧ Below w.heap.size w w' := hX
        clear hX
        go_enter Tryz.func63, Tryz.ntmps63
        go_wp2_with (first | (with_reducible refine (hE _).mono ?_; rintro e w1 ⟨rfl, q1⟩; (have kF1 := kF.below q1 kF.lt; have B1 := bthen B0 q1; have y_0 := kF1.cell 0; have y_1 := kF1.cell 1; have y_2 := kF1.cell 2; have y_3 := kF1.cell 3; have y_4 := kF1.cell 4; simp at y_0 y_1 y_2 y_3 y_4; clear q1)) | (with_reducible refine (hRd _ (hN.below B1)).mono ?_; rintro e w2 ⟨rfl, q2⟩; (have kF2 := kF1.below q2 kF1.lt; have B2 := bthen B1 q2; have hz2 := kF2.lt; have z_0 := kF2.cell 0; have z_1 := kF2.cell 1; have z_2 := kF2.cell 2; have z_3 := kF2.cell 3; have z_4 := kF2.cell 4; simp at z_0 z_1 z_2 z_3 z_4; clear q2)))
        have kF3 := kF2.alloc (.cells (psC ⟨1, g, q, dd⟩) 74)
        have j3 := Blk.new w2 74 (psC ⟨1, g, q, dd⟩)
        have B3 := (B2.alloc (Nat.le_of_lt hz2) (.cells (psC ⟨1, g, q, dd⟩) 74))
        generalize World.alloc w2 _ = W3 at *
        have c0 : ∀ m : CalmW W3.heap.size W3, m.val.cell? ⟨w.heap.size, 0, none⟩ = some (.string fa) := fun m => (kF3.below m.below kF3.lt).cell 0
        have c1 : ∀ m : CalmW W3.heap.size W3, m.val.cell? ⟨w.heap.size, 1, none⟩ = some (.string fb) := fun m => (kF3.below m.below kF3.lt).cell 1
        have d0 : ∀ m : CalmW W3.heap.size W3, m.val.cell? ⟨w2.heap.size, 0, none⟩ = some (.int .i64 1) := fun m => (j3.below m.below j3.lt).cell 0
        have y3 := kF3.lt
        have y4 := j3.lt
        (refine wp_region_calm (W3.heap.size) (by kernel_rfl) (by kernel_rfl) ?_; (repeat (go_big_quiet_step ((first | (with_reducible refine calm_same (hO _)) | (with_reducible refine calm_of (Nat.le_refl _) (hX' _)))))); refine wpQuiet_nil ?_; intro W4 hw'; obtain ⟨⟨_, hW4⟩, hw''⟩ := hw'; subst hw'')
        have kF4 := kF3.below hW4 kF3.lt
        have j4 := j3.below hW4 j3.lt
        have B4 := bthen B3 hW4
        clear c0 c1 d0 y3 y4 kF3 j3 B3 hW4 kF2 B2 kF1 B1 y_0 y_1 y_2 y_3 y_4 z_0 z_1 z_2 z_3 z_4 hE hRd hO hX'
        have x_0 := kF4.cell 0
        have x_1 := kF4.cell 1
        have x_2 := kF4.cell 2
        have x_3 := kF4.cell 3
        have x_4 := kF4.cell 4
        have u_0 := j4.cell 0
        have u_1 := j4.cell 1
        have u_2 := j4.cell 2
        have u_3 := j4.cell 3
        simp at x_0 x_1 x_2 x_3 x_4 u_0 u_1 u_2 u_3
        by_cases hqm : q = 18446744073709551615
        · subst hqm
          go_wp2
          go_ret2
          exact ⟨_, by rw [HNE.out]; rfl, by rw [HNL.out]; exact OwnsO.nil _ _, B4⟩
        · obtain ⟨Q, hQ⟩ : ∃ Q, Q = q + 1 := ⟨_, rfl⟩
          have hQl : Q < 18446744073709551616 := by omega
          have hQw : IntKind.u64.wrap ((q : Int) + 1) = (Q : Int) := by rw [hQ]; show ((q : Int) + 1) % 18446744073709551616 = _; omega
          rw [← hQ] at HNL
          clear hQ
          have hqm2 : (q == 18446744073709551615) = false := by simpa using hqm
          have HQM := Lib.hid hqm
          by_cases hs : 0 < slot
          · have hs2 : decide (0 < slot) = true := by simpa using hs
            have hA1 := hA slot Q hQl
            go_wp2_with (with_reducible refine (hA1 _).mono ?_; rintro e w6 ⟨v, rfl, own6, q6⟩)
            go_ret2
            exact ⟨v, by rw [HNE.out, if_neg HQM.out, if_pos hs]; rfl, by rw [HNL.out, if_neg HQM.out, if_pos hs]; exact own6.base B4.size, bthen B4 q6⟩
          · have hs2 : decide (0 < slot) = false := by simpa using hs
            have HS := Lib.hid hs
            clear hs
            by_cases hgm : g = 18446744073709551615
            · have HGM := Lib.hid hgm
              have hgm2 : (g == 18446744073709551615) = true := by simpa using hgm
              have hRE : RE = 11 := by rw [HNE.out, if_neg HQM.out, if_neg (fun h => HS.out h), if_pos hgm]
              have hRL : RL = [] := by rw [HNL.out, if_neg HQM.out, if_neg (fun h => HS.out h), if_pos hgm]
              subst hRE hRL
              clear HNE HNL HS HGM HQM
              subst hgm
              go_wp2
              go_ret2
              exact ⟨_, rfl, OwnsO.nil _ _, B4⟩
            · obtain ⟨G, hG0⟩ : ∃ G, G = g + 1 := ⟨_, rfl⟩
              have hGl : G < 18446744073709551616 := by omega
              have hGw : IntKind.u64.wrap ((g : Int) + 1) = (G : Int) := by rw [hG0]; show ((g : Int) + 1) % 18446744073709551616 = _; omega
              rw [← hG0] at HNL
              clear hG0
              have hgm2 : (g == 18446744073709551615) = false := by simpa using hgm
              have HGM := Lib.hid hgm
              have hG1 := hG G Q hGl hQl
              generalize wornB _ _ = WB at *
              cases WB
              · go_wp2_with (first | (with_reducible refine (hW _).mono ?_; rintro e w5 ⟨rfl, q5⟩; (have kF5 := kF4.below q5 kF4.lt; have B5 := bthen B4 q5; have j5 := j4.below q5 j4.lt; have v_0 := kF5.cell 0; have v_1 := kF5.cell 1; have v_2 := kF5.cell 2; have v_3 := kF5.cell 3; have v_4 := kF5.cell 4; have t_0 := j5.cell 0; have t_1 := j5.cell 1; have t_2 := j5.cell 2; have t_3 := j5.cell 3; simp at v_0 v_1 v_2 v_3 v_4 t_0 t_1 t_2 t_3; clear q5)) | (with_reducible refine (hG1 _).mono ?_; rintro e w7 ⟨v, rfl, own7, q7⟩))
                go_ret2
                exact ⟨v, by rw [HNE.out, if_neg HQM.out, if_neg (Int.not_lt.2 HS.out), if_neg HGM.out]; rfl, by rw [HNL.out, if_neg HQM.out, if_neg (Int.not_lt.2 HS.out), if_neg HGM.out]; exact own7.base B5.size, bthen B5 q7⟩
              · go_wp2_with (with_reducible refine (hW _).mono ?_; rintro e w5 ⟨rfl, q5⟩; (have kF5 := kF4.below q5 kF4.lt; have B5 := bthen B4 q5; have j5 := j4.below q5 j4.lt; have v_0 := kF5.cell 0; have v_1 := kF5.cell 1; have v_2 := kF5.cell 2; have v_3 := kF5.cell 3; have v_4 := kF5.cell 4; have t_0 := j5.cell 0; have t_1 := j5.cell 1; have t_2 := j5.cell 2; have t_3 := j5.cell 3; simp at v_0 v_1 v_2 v_3 v_4 t_0 t_1 t_2 t_3; clear q5))
                go_ret2
                exact ⟨_, by rw [HNE.out, if_neg HQM.out, if_neg (Int.not_lt.2 HS.out), if_neg HGM.out]; rfl, by rw [HNL.out, if_neg HQM.out, if_neg (Int.not_lt.2 HS.out), if_neg HGM.out]; exact OwnsO.nil _ _, B5⟩
end Go.Proofs.YtebkeocpojlepaaGreatDoor

/- journal.look; what a plan's ops are; a flash behind Play. -/
namespace Go.Proofs.YtebkeocpojlepaaGreatDoor
open Go.RowKit
set_option linter.unusedVariables false
set_option linter.unusedSimpArgs false

abbrev seC (p : Ps) (e : Int) : Array Value := #[.int .i64 p.bank, .int .u64 (p.gen : Int), .int .u64 (p.seq : Int), .int .u64 (p.dat : Int), .int .i64 e]
theorem infoSe (p : Ps) (e : Int) : (Tryz.prog.info? 127).map (·.size) = some (seC p e).size := by kernel_rfl
theorem oneSe (p : Ps) (e : Int) : (seC p e).all (·.oneCell') = true := by kernel_rfl
abbrev seZ : Array Value := #[.int .i64 0, .int .u64 0, .int .u64 0, .int .u64 0, .int .i64 0]

set_option maxRecDepth 100000 in
set_option maxHeartbeats 4000000 in
theorem look_any (f : Fl) (hf : f.ok) (w : World) (hN : NoneG w) :
    Calls Tryz.prog 65 #[flV f] w fun e w' => e = .returned (.agg (seC (readV f) (readE f))) ∧ Below w.heap.size w w' := by
  have hRd := Read_pick f hf
  generalize readV f = p at *
  generalize readE f = E at *
  obtain ⟨fa, fb, fx, fy, fl⟩ := f
  have kR := Blk.new (w.alloc (.cells #[.string fa, .string fb, .int .i64 fx, .int .i64 fy, .int .i64 fl] 30)) 127 seZ
  rw [World.size_alloc] at kR
  have B0 : Below w.heap.size w ((w.alloc (.cells #[.string fa, .string fb, .int .i64 fx, .int .i64 fy, .int .i64 fl] 30)).alloc (.cells seZ 127)) := ((Below.refl _ w).alloc (Nat.le_refl _) _).alloc (by simp) _
  go_enter Tryz.func65, Tryz.ntmps65
  go_wp2_with fail
  with_reducible refine (hRd _ (hN.below B0)).mono ?_
  rintro e w1 ⟨rfl, q1⟩
  have B1 := bthen B0 q1
  have k1 := kR.below q1 kR.lt
  have k3 := k1.alloc (.cells (psC p) 74)
  have j3 := Blk.new w1 74 (psC p)
  have B3 := B1.alloc (Nat.le_trans (Nat.le_succ _) (Nat.le_of_lt k1.lt)) (.cells (psC p) 74)
  go_wp2_with (first | (refine wpList_load_row rfl 74 (.tmp 3) rfl w1.heap.size rfl 74 (psC p) (0, 0) _ j3 Tryz.underlying74 rfl (infoPs _) ?_) | (refine wpList_store_row rfl 127 (.tmp 2) (.tmp 12) rfl (w.heap.size + 1) (seC p E) rfl rfl 127 _ k3 (infoSe _ _) rfl (oneSe _ _) ?_))
  exact bodyPost_ret (v := .agg (seC p E)) (results_cell_row rfl _ _ (w.heap.size + 1) 127 (seC p E) (0, 0) _ rfl (k3.row _) Tryz.underlying127 rfl (infoSe _ _)) rfl ⟨rfl, bel_row B3 _ (Nat.le_succ _) _⟩

/-! what a plan's ops are -/
theorem atL_wf (n : Int) : (Lit.int .i64 (atL n)).wf = true := by unfold atL; exact i64wf _ (by split <;> omega) (by split <;> omega)
theorem markL_wf (n : Int) : (Lit.int .i64 (markL n)).wf = true := by unfold markL; exact i64wf _ (by split <;> omega) (by split <;> omega)
theorem bank_wf {b : Int} (hb : b = 0 ∨ b = 1) : (Lit.int .i64 b).wf = true := by rcases hb with rfl | rfl <;> rfl
theorem writeL_ok {b p k : Int} {n d : Nat} (hb : b = 0 ∨ b = 1) : ∀ x ∈ writeL b p k n d, x.ok := by
  intro x hx
  have hz := bodyB_size k n d
  simp [writeL] at hx
  rcases hx with rfl | rfl
  · exact ⟨rfl, bank_wf hb, atL_wf _, by show (bodyB k n d).size ≤ maxLen; unfold maxLen; omega⟩
  · exact ⟨rfl, bank_wf hb, markL_wf _, by show (⟨#[90, 60]⟩ : ByteArray).size ≤ maxLen; decide⟩
theorem freshL_ok {b : Int} {kl : Bool} {g q d : Nat} (hb : b = 0 ∨ b = 1) : ∀ x ∈ freshL b kl g q d, x.ok := by
  intro x hx
  unfold freshL at hx
  rw [List.mem_append, List.mem_append, List.mem_append] at hx
  rcases hx with ((hx | hx) | hx) | hx
  · cases kl
    · simp at hx
    · simp at hx; subst hx; exact ⟨rfl, bank_wf hb, rfl, by show (⟨#[0, 0]⟩ : ByteArray).size ≤ maxLen; decide⟩
  · simp at hx; subst hx; exact ⟨rfl, bank_wf hb, rfl, by show (⟨#[]⟩ : ByteArray).size ≤ maxLen; decide⟩
  · exact writeL_ok hb x hx
  · exact writeL_ok hb x hx
theorem freshL_len (b : Int) (kl : Bool) (g q d : Nat) : (freshL b kl g q d).length ≤ 6 := by cases kl <;> simp [freshL, writeL]
theorem plan_ok (f : Fl) (d : Nat) : (∀ x ∈ planL f d, x.ok) ∧ (planL f d).length ≤ 6 := by
  unfold planL
  split
  · exact ⟨by simp, by simp⟩
  split
  · unfold firstL
    split
    · exact ⟨freshL_ok (.inl rfl), freshL_len ..⟩
    split
    · exact ⟨freshL_ok (.inr rfl), freshL_len ..⟩
    · exact ⟨by simp, by simp⟩
  · rename_i h
    have hb : (readV f).bank = 0 ∨ (readV f).bank = 1 := by
      rcases read_cases f with ⟨h1, _⟩ | ⟨_, h2, _, h3⟩
      · rw [h1] at h; exact absurd (by decide) h
      · rw [h2]; exact h3
    have hb2 : 1 - (readV f).bank = 0 ∨ 1 - (readV f).bank = 1 := by omega
    unfold nextL
    split
    · exact ⟨by simp, by simp⟩
    split
    · exact ⟨writeL_ok hb, by simp [writeL]⟩
    split
    · exact ⟨by simp, by simp⟩
    split
    · exact ⟨by simp, by simp⟩
    · exact ⟨freshL_ok hb2, freshL_len ..⟩

theorem tearF_ok {f : Fl} (hf : f.ok) (o : Oq) (mask : ByteArray) : (tearF f o mask).ok := by
  unfold tearF
  split
  · rename_i h
    refine put_ok (doF_ok hf o) _ _ ?_
    rcases doE_of h with ⟨h1, h2⟩ | ⟨h1, h2⟩
    · obtain ⟨hk, h3, h4, _⟩ := pgE_of h2
      have hs : (tearS f o mask).size = (f.bank o.bank).size := by
        unfold tearS
        rw [if_neg (by rw [h1]; decide)]
        exact midB_size _ _ _ _ _ (by omega) (by omega)
      rw [hs]; exact hf.bank _
    · have hz := (doF_ok hf o).bank o.bank
      have e : (doF f o).bank o.bank = fullB (f.bank o.bank).size := by
        unfold doF
        rw [if_neg (by rw [h1]; decide), if_pos h1]
        unfold erF
        rw [if_pos h2]
        unfold Fl.wear Fl.put Fl.bank
        repeat' split
        all_goals first | rfl | omega | skip
      have hs : (tearS f o mask).size = ((doF f o).bank o.bank).size := by
        unfold tearS
        rw [if_pos h1]
        exact midB_size _ _ _ _ _ (by omega) (by rw [e, fullB_size]; omega)
      rw [hs]; exact hz
  · exact hf
theorem play_ok (cut : Int) (mask : ByteArray) : ∀ (L : List Oq) (f : Fl) (i : Nat), f.ok → (playK cut mask f L i).f.ok := by
  intro L
  induction L with
  | nil => intro f i hf; exact hf
  | cons o L ih =>
    intro f i hf
    unfold playK
    split
    · exact tearF_ok hf o mask
    split
    · exact ih _ _ (doF_ok hf o)
    · exact hf
end Go.Proofs.YtebkeocpojlepaaGreatDoor

/- journal.Put. -/
namespace Go.Proofs.YtebkeocpojlepaaGreatDoor
open Go.RowKit
set_option linter.unusedVariables false
set_option linter.unusedSimpArgs false

def putP (f : Fl) (d : Nat) (cut : Int) (mask : ByteArray) : Pl := playK cut mask f (planL f d) 0
def putF (f : Fl) (d : Nat) (cut : Int) (mask : ByteArray) : Fl := if planE f ≠ 0 then f else (putP f d cut mask).f
def ackB (e n : Int) (ln : Nat) (re : Int) (da d : Nat) : Bool := decide (e = 0) && decide (n = (ln : Int)) && decide (re = 0) && decide (da = d)
def putA (f : Fl) (d : Nat) (cut : Int) (mask : ByteArray) : Bool :=
  if planE f ≠ 0 then false else ackB (putP f d cut mask).e (putP f d cut mask).n (planL f d).length (readE (putP f d cut mask).f) (readV (putP f d cut mask).f).dat d
theorem putF_ok {f : Fl} (hf : f.ok) (d : Nat) (cut : Int) (mask : ByteArray) : (putF f d cut mask).ok := by
  unfold putF; split
  · exact hf
  · exact play_ok _ _ _ _ _ hf

theorem OwnsO.slice {w : World} {base : Nat} {v : Value} {L : List Oq} (h : OwnsO w base v L) : ∃ p c, v = .slice p L.length c := by
  obtain ⟨_, ⟨hv, h0⟩ | ⟨g, cap, cur, hv, _⟩⟩ := h
  · exact ⟨none, 0, by rw [hv, h0]⟩
  · exact ⟨_, _, hv⟩

theorem results_three {P : Program} {fn : Func} {p u v : Tmp} {ty : TypeId} (h : fn.results = #[.cell p ty, .tmp u, .tmp v]) (tmps : Array Value) (w : World) (g : Nat) (t : TypeId) (cs : Array Value) (fr : Nat × Nat) (d : TypeDesc) (x y : Value)
    (hp : tmps.getD p undef = .pointer (some ⟨g, 0, none⟩)) (hx : tmps.getD u undef = x) (hy : tmps.getD v undef = y) (hg : w.heap[g]? = some (.cells cs t fr))
    (hu : P.underlying ty = some d) (hd : (match d with | .struct _ | .array _ _ => true | _ => false) = true) (hi : (P.info? ty).map (·.size) = some cs.size) :
    (results fn tmps).run P w = .ok (.tuple #[.agg cs, x, y]) w := by
  have hp' : tmps[p]?.getD undef = .pointer (some ⟨g, 0, none⟩) := by simpa using hp
  have hx' : tmps[u]?.getD undef = x := by simpa using hx
  have hy' : tmps[v]?.getD undef = y := by simpa using hy
  simp [results, h, hp', hx', hy', asAddr, run_loadVar_row w g t ty cs fr d hg hu hd hi]

set_option maxRecDepth 100000 in
set_option maxHeartbeats 4000000 in
theorem Put_any' (f : Fl) (hf : f.ok) (d : Nat) (hd : d < 18446744073709551616) (cut : Int) (mask : ByteArray) (hm : mask.size ≤ 1000) (w : World) (hN : NoneG w) :
    Calls Tryz.prog 41 #[flV f, .agg #[.int .u64 (d : Int), .int .i64 cut, .string mask]] w fun e w' =>
      e = .returned (.tuple #[flV (putF f d cut mask), .bool (putA f d cut mask), .int .i64 (planE f)]) ∧ Below w.heap.size w w' := by
  have hP := Plan_any f hf d hd
  unfold PlanPost at hP
  obtain ⟨hok, hlen⟩ := plan_ok f d
  have hPl := fun (v : Value) (w : World) (hA : OpsV w v (planL f d)) => Play_any f hf v (planL f d) hok (by omega) cut mask hm w hA
  have hLk := look_any (putP f d cut mask).f (play_ok _ _ _ _ _ hf)
  have hF : putF f d cut mask = if planE f ≠ 0 then f else (putP f d cut mask).f := rfl
  have hA : putA f d cut mask = if planE f ≠ 0 then false else ackB (putP f d cut mask).e (putP f d cut mask).n (planL f d).length (readE (putP f d cut mask).f) (readV (putP f d cut mask).f).dat d := rfl
  unfold putP at hLk hF hA
  generalize playK cut mask f (planL f d) 0 = R at *
  generalize putF f d cut mask = RF at *
  generalize putA f d cut mask = RA at *
  generalize readE R.f = re at *
  generalize readV R.f = rv at *
  generalize planE f = PE at *
  clear hok hlen
  obtain ⟨L, hL⟩ : ∃ L, L = planL f d := ⟨_, rfl⟩
  rw [← hL] at hP hPl hA
  clear hL
  have kF := ((Blk.new w 30 (flC f)).alloc (.cells #[.int .u64 (d : Int), .int .i64 cut, .string mask] 94)).alloc (.cells zC 30)
  have kS := (Blk.new (w.alloc (.cells (flC f) 30)) 94 #[.int .u64 (d : Int), .int .i64 cut, .string mask]).alloc (.cells zC 30)
  have kT := Blk.new ((w.alloc (.cells (flC f) 30)).alloc (.cells #[.int .u64 (d : Int), .int .i64 cut, .string mask] 94)) 30 zC
  rw [World.size_alloc] at kS kT
  rw [World.size_alloc] at kT
  have B0 : Below w.heap.size w (((w.alloc (.cells (flC f) 30)).alloc (.cells #[.int .u64 (d : Int), .int .i64 cut, .string mask] 94)).alloc (.cells zC 30)) := (((Below.refl _ w).alloc (Nat.le_refl _) _).alloc (by simp) _).alloc (by simp; omega) _
  obtain ⟨fa, fb, fx, fy, fl⟩ := f
  go_enter Tryz.func41, Tryz.ntmps41
  go_wp2_with fail
  have N0 := hN.below B0
  generalize World.alloc (World.alloc (World.alloc w _) _) _ = W0 at *
  with_reducible refine (hP _ N0).mono ?_
  rintro e w1 ⟨v, rfl, own1, q1⟩
  have kF1 := kF.below q1 kF.lt
  have kS1 := kS.below q1 kS.lt
  have kT1 := kT.below q1 kT.lt
  have B1 := bthen B0 q1
  have N1 := hN.below B1
  have hO1 := own1.ops
  obtain ⟨vb, vc, rfl⟩ := own1.slice
  clear kF kS kT B0 N0 q1 own1
  have x_0 := kF1.cell 0
  have x_1 := kF1.cell 1
  have x_2 := kF1.cell 2
  have x_3 := kF1.cell 3
  have x_4 := kF1.cell 4
  simp at x_0 x_1 x_2 x_3 x_4
  have s_0 := kS1.cell 0
  have s_1 := kS1.cell 1
  have s_2 := kS1.cell 2
  simp at s_0 s_1 s_2
  by_cases hE : PE = 0
  · rw [if_neg (by simp [hE])] at hF hA
    subst hE hF
    have HA := Lib.hid hA
    clear hA
    have hPl1 := hPl _ w1 hO1
    have HO := Lib.hid hO1
    clear hO1
    obtain ⟨⟨ga, gb, gx, gy, gl⟩, n, E⟩ := R
    go_wp2_with (with_reducible refine hPl1.mono ?_; rintro e w3 ⟨rfl, q3⟩)
    have B3 := bthen B1 q3
    have hz3 : w.heap.size + 2 < w3.heap.size := Nat.lt_of_lt_of_le kT1.lt q3.size
    have kG4 := Blk.new w3 30 (flC ⟨ga, gb, gx, gy, gl⟩)
    have kS4 := (kS1.below q3 kS1.lt).alloc (.cells (flC ⟨ga, gb, gx, gy, gl⟩) 30)
    have kT4 := (kT1.below q3 kT1.lt).alloc (.cells (flC ⟨ga, gb, gx, gy, gl⟩) 30)
    have B4 := B3.alloc B3.size (.cells (flC ⟨ga, gb, gx, gy, gl⟩) 30)
    clear q3 kF1 kS1 kT1 B1 N1 x_0 x_1 x_2 x_3 x_4 s_0 s_1 s_2 hPl hPl1 HO B3
    have N4 := hN.below B4
    generalize World.alloc w3 _ = W4 at *
    with_reducible refine (hLk _ N4).mono ?_
    rintro e w5 ⟨rfl, q5⟩
    have hz5 : w3.heap.size < w5.heap.size := Nat.lt_of_lt_of_le kG4.lt q5.size
    have B6 := (bthen B4 q5).alloc (bthen B4 q5).size (.cells (seC rv re) 127)
    have kG6 := (kG4.below q5 kG4.lt).alloc (.cells (seC rv re) 127)
    have kS6 := (kS4.below q5 kS4.lt).alloc (.cells (seC rv re) 127)
    have kT6 := (kT4.below q5 kT4.lt).alloc (.cells (seC rv re) 127)
    have kX6 := Blk.new w5 127 (seC rv re)
    clear q5 kG4 kS4 kT4 B4 N4 hLk
    obtain ⟨rb, rg, rq, rd⟩ := rv
    go_wp2_with fail
    generalize World.alloc w5 _ = W6 at *
    have g_0 := kG6.cell 0
    have g_1 := kG6.cell 1
    have g_2 := kG6.cell 2
    have g_3 := kG6.cell 3
    have g_4 := kG6.cell 4
    simp at g_0 g_1 g_2 g_3 g_4
    have s_0 := kS6.cell 0
    have t_0 := kT6.cell 0
    have t_1 := kT6.cell 1
    have t_2 := kT6.cell 2
    have t_3 := kT6.cell 3
    have t_4 := kT6.cell 4
    simp at t_0 t_1 t_2 t_3 t_4
    have x_3 := kX6.cell 3
    have x_4 := kX6.cell 4
    simp at s_0 x_3 x_4
    have z_0 := kT6.frozen 0
    have z_1 := kT6.frozen 1
    have z_2 := kT6.frozen 2
    have z_3 := kT6.frozen 3
    have z_4 := kT6.frozen 4
    have nA : (w3.heap.size = w.heap.size + 1 + 1) = False := by simp; omega
    have nB : (w5.heap.size = w.heap.size + 1 + 1) = False := by simp; omega
    have nC : (w.heap.size + 1 + 1 = w3.heap.size) = False := by simp; omega
    have nD : (w.heap.size + 1 + 1 = w5.heap.size) = False := by simp; omega
    unfold ackB at HA

    obtain ⟨ln, hln⟩ : ∃ ln, ln = L.length := ⟨_, rfl⟩
    rw [← hln] at HA ⊢
    clear hln
    by_cases h1 : E = 0
    · subst h1
      by_cases h2 : n = (ln : Int)
      · subst h2
        by_cases h3 : re = 0
        · subst h3
          by_cases h4 : rd = d
          · subst h4
            have hRA : RA = true := by rw [HA.out]; simp
            clear HA
            subst hRA
            have e4 : (rd == rd) = true := by simp
            go_region_held3 (fun w' => w'.cell? ⟨w3.heap.size, 0, none⟩ = some (.string ga) ∧ w'.cell? ⟨w3.heap.size, 1, none⟩ = some (.string gb) ∧ w'.cell? ⟨w3.heap.size, 2, none⟩ = some (.int .i64 gx) ∧ w'.cell? ⟨w3.heap.size, 3, none⟩ = some (.int .i64 gy) ∧ w'.cell? ⟨w3.heap.size, 4, none⟩ = some (.int .i64 gl) ∧ w'.cell? ⟨w5.heap.size, 3, none⟩ = some (.int .u64 ((rd : Int))) ∧ w'.cell? ⟨w5.heap.size, 4, none⟩ = some (.int .i64 0) ∧ w'.cell? ⟨w.heap.size + 1, 0, none⟩ = some (.int .u64 (rd : Int)))
              (first | go_keep | (go_split_ands; refine ⟨?_, ?_, ?_, ?_, ?_, ?_, ?_, ?_⟩ <;> simp [*]))
              (fail)
            all_goals
              obtain ⟨k7, B7⟩ := five_stores (v0 := .string ga) (v1 := .string gb) (v2 := .int .i64 gx) (v3 := .int .i64 gy) (v4 := .int .i64 gl) kT6 B6 (by omega)
              have k8 := k7.drew
              have B8 := B7.drew
              clear kT6 kG6 kS6 kX6 B6 B7 k7 g_0 g_1 g_2 g_3 g_4 t_0 t_1 t_2 t_3 t_4 z_0 z_1 z_2 z_3 z_4 s_0 x_3 x_4
              generalize World.drew _ = W8 at *
              go_wp2
              exact bodyPost_ret (results_three rfl _ _ (w.heap.size + 1 + 1) 30 (flC ⟨ga, gb, gx, gy, gl⟩) (0, 0) _ (.bool true) (.int .i64 0) rfl rfl rfl k8 Tryz.underlying30 rfl (by kernel_rfl)) rfl ⟨rfl, B8⟩
          · have hRA : RA = false := by rw [HA.out]; simp [h4]
            clear HA
            subst hRA
            have e4 : (rd == d) = false := by simpa using h4
            have e4' : decide (rd = d) = false := by simpa using h4
            have e5 : ((rd : Int) == (d : Int)) = false := by simp; omega
            clear h4
            go_region_held3 (fun w' => w'.cell? ⟨w3.heap.size, 0, none⟩ = some (.string ga) ∧ w'.cell? ⟨w3.heap.size, 1, none⟩ = some (.string gb) ∧ w'.cell? ⟨w3.heap.size, 2, none⟩ = some (.int .i64 gx) ∧ w'.cell? ⟨w3.heap.size, 3, none⟩ = some (.int .i64 gy) ∧ w'.cell? ⟨w3.heap.size, 4, none⟩ = some (.int .i64 gl) ∧ w'.cell? ⟨w5.heap.size, 3, none⟩ = some (.int .u64 ((rd : Int))) ∧ w'.cell? ⟨w5.heap.size, 4, none⟩ = some (.int .i64 0) ∧ w'.cell? ⟨w.heap.size + 1, 0, none⟩ = some (.int .u64 (d : Int)))
              (first | go_keep | (go_split_ands; refine ⟨?_, ?_, ?_, ?_, ?_, ?_, ?_, ?_⟩ <;> simp [*]))
              (fail)
            all_goals
              obtain ⟨k7, B7⟩ := five_stores (v0 := .string ga) (v1 := .string gb) (v2 := .int .i64 gx) (v3 := .int .i64 gy) (v4 := .int .i64 gl) kT6 B6 (by omega)
              have k8 := k7.drew
              have B8 := B7.drew
              clear kT6 kG6 kS6 kX6 B6 B7 k7 g_0 g_1 g_2 g_3 g_4 t_0 t_1 t_2 t_3 t_4 z_0 z_1 z_2 z_3 z_4 s_0 x_3 x_4
              generalize World.drew _ = W8 at *
              go_wp2
              exact bodyPost_ret (results_three rfl _ _ (w.heap.size + 1 + 1) 30 (flC ⟨ga, gb, gx, gy, gl⟩) (0, 0) _ (.bool false) (.int .i64 0) rfl rfl rfl k8 Tryz.underlying30 rfl (by kernel_rfl)) rfl ⟨rfl, B8⟩
        · have hRA : RA = false := by rw [HA.out]; simp [h3]
          clear HA
          subst hRA
          have e3 : (re == 0) = false := by simpa using h3
          have e3' : decide (re = 0) = false := by simpa using h3
          clear h3
          go_region
          all_goals
            obtain ⟨k7, B7⟩ := five_stores (v0 := .string ga) (v1 := .string gb) (v2 := .int .i64 gx) (v3 := .int .i64 gy) (v4 := .int .i64 gl) kT6 B6 (by omega)
            have k8 := k7.drew
            have B8 := B7.drew
            clear kT6 kG6 kS6 kX6 B6 B7 k7 g_0 g_1 g_2 g_3 g_4 t_0 t_1 t_2 t_3 t_4 z_0 z_1 z_2 z_3 z_4 s_0 x_3 x_4
            generalize World.drew _ = W8 at *
            go_wp2
            exact bodyPost_ret (results_three rfl _ _ (w.heap.size + 1 + 1) 30 (flC ⟨ga, gb, gx, gy, gl⟩) (0, 0) _ (.bool false) (.int .i64 0) rfl rfl rfl k8 Tryz.underlying30 rfl (by kernel_rfl)) rfl ⟨rfl, B8⟩
      · have hRA : RA = false := by rw [HA.out]; simp [h2]
        clear HA
        subst hRA
        have e2 : (n == (ln : Int)) = false := by simpa using h2
        have e2' : decide (n = (ln : Int)) = false := by simpa using h2
        clear h2
        go_region
        all_goals
          obtain ⟨k7, B7⟩ := five_stores (v0 := .string ga) (v1 := .string gb) (v2 := .int .i64 gx) (v3 := .int .i64 gy) (v4 := .int .i64 gl) kT6 B6 (by omega)
          have k8 := k7.drew
          have B8 := B7.drew
          clear kT6 kG6 kS6 kX6 B6 B7 k7 g_0 g_1 g_2 g_3 g_4 t_0 t_1 t_2 t_3 t_4 z_0 z_1 z_2 z_3 z_4 s_0 x_3 x_4
          generalize World.drew _ = W8 at *
          go_wp2
          exact bodyPost_ret (results_three rfl _ _ (w.heap.size + 1 + 1) 30 (flC ⟨ga, gb, gx, gy, gl⟩) (0, 0) _ (.bool false) (.int .i64 0) rfl rfl rfl k8 Tryz.underlying30 rfl (by kernel_rfl)) rfl ⟨rfl, B8⟩
    · have hRA : RA = false := by rw [HA.out]; simp [h1]
      clear HA
      subst hRA
      have e1 : (E == 0) = false := by simpa using h1
      have e1' : decide (E = 0) = false := by simpa using h1
      clear h1
      go_region
      all_goals
        obtain ⟨k7, B7⟩ := five_stores (v0 := .string ga) (v1 := .string gb) (v2 := .int .i64 gx) (v3 := .int .i64 gy) (v4 := .int .i64 gl) kT6 B6 (by omega)
        have k8 := k7.drew
        have B8 := B7.drew
        clear kT6 kG6 kS6 kX6 B6 B7 k7 g_0 g_1 g_2 g_3 g_4 t_0 t_1 t_2 t_3 t_4 z_0 z_1 z_2 z_3 z_4 s_0 x_3 x_4
        generalize World.drew _ = W8 at *
        go_wp2
        exact bodyPost_ret (results_three rfl _ _ (w.heap.size + 1 + 1) 30 (flC ⟨ga, gb, gx, gy, gl⟩) (0, 0) _ (.bool false) (.int .i64 0) rfl rfl rfl k8 Tryz.underlying30 rfl (by kernel_rfl)) rfl ⟨rfl, B8⟩
  · rw [if_pos hE] at hF hA
    subst hF hA
    have hE2 : (PE != 0) = true := by simpa using hE
    go_wp2_with (refine wpList_store_row rfl 30 (.tmp 4) (.tmp 21) rfl (w.heap.size + 2) (flC ⟨fa, fb, fx, fy, fl⟩) rfl rfl 30 _ kT1 (by kernel_rfl) rfl (by kernel_rfl) ?_)
    have kT2 := kT1.row (flC ⟨fa, fb, fx, fy, fl⟩)
    have B2 := bel_row B1 (w.heap.size + 2) (by omega) (flC ⟨fa, fb, fx, fy, fl⟩)
    exact bodyPost_ret (results_three rfl _ _ (w.heap.size + 2) 30 (flC ⟨fa, fb, fx, fy, fl⟩) (0, 0) _ (.bool false) (.int .i64 PE) rfl rfl rfl kT2 Tryz.underlying30 rfl (by kernel_rfl)) rfl ⟨rfl, B2⟩
end Go.Proofs.YtebkeocpojlepaaGreatDoor

/- super.Boot. -/
namespace Go.Proofs.YtebkeocpojlepaaGreatDoor
open Go.RowKit
set_option linter.unusedVariables false
set_option linter.unusedSimpArgs false

/-- a supervisor -/
structure Su where
  f : Fl
  s : St
  ph : Int
  vv : Int
  vn : Int
abbrev suC (x : Su) : Array Value := #[.string x.f.a, .string x.f.b, .int .i64 x.f.x, .int .i64 x.f.y, .int .i64 x.f.l, .int .i64 x.s.mode, .bool x.s.armed, .bool x.s.home, .int .i64 x.s.lat, .int .i64 x.s.lon, .int .i64 x.s.iso, .int .i64 x.ph, .int .i64 x.vv, .int .i64 x.vn]
abbrev suV (x : Su) : Value := .agg (suC x)
abbrev suZ : Array Value := #[.string ⟨#[]⟩, .string ⟨#[]⟩, .int .i64 0, .int .i64 0, .int .i64 0, .int .i64 0, .bool false, .bool false, .int .i64 0, .int .i64 0, .int .i64 0, .int .i64 0, .int .i64 0, .int .i64 0]
theorem infoSu (x : Su) : (Tryz.prog.info? 36).map (·.size) = some (suC x).size := by kernel_rfl
theorem oneSu (x : Su) : (suC x).all (·.oneCell') = true := by kernel_rfl
theorem suSet (x : Su) (s : St) : suC { x with s := s } = setAll (suC x) 5 (stC s).toList := by kernel_rfl
theorem suFit (x : Su) (s : St) : 5 + (stC s).size ≤ (suC x).size := by show 11 ≤ 14; decide
def bootS (f : Fl) : St := if readE f = 0 then unpS (readV f).dat else st0
def bootV (f : Fl) : Su := ⟨f, bootS f, 0, 0, 0⟩

set_option maxRecDepth 100000 in
set_option maxHeartbeats 4000000 in
theorem Boot_any (f : Fl) (hf : f.ok) (w : World) (hN : NoneG w) :
    Calls Tryz.prog 12 #[flV f] w fun e w' => e = .returned (suV (bootV f)) ∧ Below w.heap.size w w' := by
  have hD := sDefault_any
  have hRd := Read_pick f hf
  have hlt := read_lt f
  have hUn := Unpack_any (readV f).dat hlt.2.2
  have hR : bootV f = ⟨f, if readE f = 0 then unpS (readV f).dat else st0, 0, 0, 0⟩ := rfl
  generalize bootV f = R at *
  generalize readV f = rv at *
  obtain ⟨rb, rg, rq, rd⟩ := rv
  generalize readE f = E at *
  have hUS : unpS rd = if unpB rd then unpR rd else st0 := rfl
  have hUE : unpE rd = if unpB rd then 0 else 13 := rfl
  clear hlt
  obtain ⟨fa, fb, fx, fy, fl⟩ := f
  have kF := (Blk.new w 30 #[.string fa, .string fb, .int .i64 fx, .int .i64 fy, .int .i64 fl]).alloc (.cells suZ 36)
  have kR := Blk.new (w.alloc (.cells #[.string fa, .string fb, .int .i64 fx, .int .i64 fy, .int .i64 fl] 30)) 36 suZ
  rw [World.size_alloc] at kR
  have B0 : Below w.heap.size w ((w.alloc (.cells #[.string fa, .string fb, .int .i64 fx, .int .i64 fy, .int .i64 fl] 30)).alloc (.cells suZ 36)) := ((Below.refl _ w).alloc (Nat.le_refl _) _).alloc (by simp) _
  go_enter Tryz.func12, Tryz.ntmps12
  go_wp2_with fail
  generalize World.alloc (World.alloc w _) _ = W0 at *
  refine wp_region_wild W0.heap.size 4 1 3 [true, true, true, false, false] [false, false, false, false, false] #[true, true, true, false, false] #[true, true, true, true, false]
    (fun v w' => ∃ g, v = .pointer (some ⟨g, 0, none⟩) ∧ W0.heap.size ≤ g ∧ Blk w' g 36 suZ) (by kernel_rfl) (by kernel_rfl) rfl (Nat.le_refl _) rfl ?_ (by kernel_rfl) ?_
  case refine_1 => rintro v w1 w2 ⟨g, rfl, hg, hB⟩ hb; exact ⟨g, rfl, hg, hB.below hb hB.lt⟩
  apply Exists.intro
  refine ⟨?_, ?_, ?_⟩
  case refine_1 =>
    intro X hX hNE
    have c0 : ∀ m : CalmX W0.heap.size W0 X, m.val.cell? ⟨w.heap.size, 0, none⟩ = some (.string fa) := fun m => (kF.below m.below kF.lt).cell 0
    have c1 : ∀ m : CalmX W0.heap.size W0 X, m.val.cell? ⟨w.heap.size, 1, none⟩ = some (.string fb) := fun m => (kF.below m.below kF.lt).cell 1
    have c2 : ∀ m : CalmX W0.heap.size W0 X, m.val.cell? ⟨w.heap.size, 2, none⟩ = some (.int .i64 fx) := fun m => (kF.below m.below kF.lt).cell 2
    have c3 : ∀ m : CalmX W0.heap.size W0 X, m.val.cell? ⟨w.heap.size, 3, none⟩ = some (.int .i64 fy) := fun m => (kF.below m.below kF.lt).cell 3
    have c4 : ∀ m : CalmX W0.heap.size W0 X, m.val.cell? ⟨w.heap.size, 4, none⟩ = some (.int .i64 fl) := fun m => (kF.below m.below kF.lt).cell 4
    simp only [keepM]
    repeat (go_big_quiet_step (with_reducible refine calmX_of hX (Nat.le_refl _) (hD _)))
    exact wpQuiet_nil rfl
  case refine_2 =>
    refine ⟨rfl, ?_⟩
    intro w1 hb
    refine ⟨.pointer (some ⟨w1.heap.size, 0, none⟩), w1.alloc (.cells suZ 36), ?_, (Below.refl _ _).alloc (Nat.le_refl _) _, ⟨_, rfl, hb.size, Blk.new _ _ _⟩⟩
    go_simp
  case refine_3 =>
    rintro v hNE
    obtain ⟨⟨wv, _, g, rfl, hg0, _⟩⟩ := hNE
    refine wpQuiet_nil ?_
    rintro w2 ⟨⟨w3, b3, hh⟩, rfl⟩
    obtain ⟨g', e, hg, kT⟩ := hh
    cases e
    refine wpAny_ready (rs := [4]) (by kernel_rfl) (by simp) ?_
    refine AllReady.cons rfl (fun K hK => ?_) AllReady.nil
    refine wp_store_row 36 (.tmp 3) (.tmp 10) rfl g (suC ⟨⟨fa, fb, fx, fy, fl⟩, st0, 0, 0, 0⟩) rfl rfl 36 _ kT (infoSu _) rfl (oneSu _) ?_
    refine hK _ _ ?_
    refine wpAny_done (by kernel_rfl) ?_ _
    have kT5 := kT.row (suC ⟨⟨fa, fb, fx, fy, fl⟩, st0, 0, 0, 0⟩)
    have kF5 := (kF.below b3 kF.lt).rowOther g (by have := kF.lt; omega) (suC ⟨⟨fa, fb, fx, fy, fl⟩, st0, 0, 0, 0⟩)
    have kR5 := (kR.below b3 kR.lt).rowOther g (by have := kR.lt; omega) (suC ⟨⟨fa, fb, fx, fy, fl⟩, st0, 0, 0, 0⟩)
    have B5 : Below w.heap.size w (w2.setRow g (suC ⟨⟨fa, fb, fx, fy, fl⟩, st0, 0, 0, 0⟩)) := bel_row (B0.trans (b3.mono B0.size)) g (Nat.le_trans B0.size hg) _
    have hgr : w.heap.size + 1 < g := Nat.lt_of_lt_of_le kR.lt hg
    generalize World.setRow w2 g _ = W5 at *
    clear kR kT kF B0 b3
    have N5 := hN.below B5
    have x_0 := kF5.cell 0
    have x_1 := kF5.cell 1
    have x_2 := kF5.cell 2
    have x_3 := kF5.cell 3
    have x_4 := kF5.cell 4
    simp at x_0 x_1 x_2 x_3 x_4
    have HR := Lib.hid hR
    clear hR
    go_wp2_with fail
    with_reducible refine (hRd _ N5).mono ?_
    rintro e w6 ⟨rfl, q6⟩
    have B6 := bthen B5 q6
    have kT6 := (kT5.below q6 kT5.lt).alloc (.cells (psC ⟨rb, rg, rq, rd⟩) 74)
    have kR6 := (kR5.below q6 kR5.lt).alloc (.cells (psC ⟨rb, rg, rq, rd⟩) 74)
    have kP6 := Blk.new w6 74 (psC ⟨rb, rg, rq, rd⟩)
    have B7 := B6.alloc B6.size (.cells (psC ⟨rb, rg, rq, rd⟩) 74)
    clear q6 kT5 kF5 kR5 B5 N5 B6 x_0 x_1 x_2 x_3 x_4
    by_cases hE : E = 0
    · have hRR : R = ⟨⟨fa, fb, fx, fy, fl⟩, unpS rd, 0, 0, 0⟩ := by rw [HR.out, if_pos hE]
      subst hE
      have hcase : (unpE rd = 0) ∨ (unpE rd = 13 ∧ unpS rd = st0) := by
        rw [hUE, hUS]
        cases unpB rd
        · exact .inr ⟨rfl, rfl⟩
        · exact .inl rfl
      clear HR hUE hUS
      generalize unpE rd = ue at *
      generalize unpS rd = us at *
      have HRR := Lib.hid hRR
      clear hRR
      rcases hcase with rfl | ⟨rfl, rfl⟩
      · obtain ⟨um, ua, uh, ula, ulo, ui⟩ := us
        go_wp2_with (first | (with_reducible refine (hUn _).mono ?_; rintro e w8 ⟨rfl, q8⟩; (have kT8 := (kT6.below q8 kT6.lt).alloc (.cells (stC ⟨um, ua, uh, ula, ulo, ui⟩) 32); have kR8 := (kR6.below q8 kR6.lt).alloc (.cells (stC ⟨um, ua, uh, ula, ulo, ui⟩) 32); have B8 := (bthen B7 q8).alloc (bthen B7 q8).size (.cells (stC ⟨um, ua, uh, ula, ulo, ui⟩) 32); clear q8)) | (refine wpList_store_part rfl 32 (.tmp 27) (.tmp 26) rfl g 5 (stC ⟨um, ua, uh, ula, ulo, ui⟩) rfl rfl 36 (suC ⟨⟨fa, fb, fx, fy, fl⟩, st0, 0, 0, 0⟩) kT8 (suFit _ _) (infoSt ⟨um, ua, uh, ula, ulo, ui⟩) (oneSt ⟨um, ua, uh, ula, ulo, ui⟩) (suC ⟨⟨fa, fb, fx, fy, fl⟩, ⟨um, ua, uh, ula, ulo, ui⟩, 0, 0, 0⟩) (suSet ⟨⟨fa, fb, fx, fy, fl⟩, st0, 0, 0, 0⟩ ⟨um, ua, uh, ula, ulo, ui⟩) ?_; intro W9 kT9 far9 bel9; have kR9 := far9 _ _ _ (Nat.ne_of_lt hgr) kR8; have B9 := bel9 _ _ (Nat.le_of_lt (Nat.lt_of_succ_lt hgr)) B8) | (refine wpList_load_row rfl 36 (.tmp 3) rfl g rfl 36 (suC ⟨⟨fa, fb, fx, fy, fl⟩, ⟨um, ua, uh, ula, ulo, ui⟩, 0, 0, 0⟩) (0, 0) _ kT9 Tryz.underlying36 rfl (infoSu _) ?_) | (refine wpList_store_row rfl 36 (.tmp 2) (.tmp 28) rfl (w.heap.size + 1) (suC ⟨⟨fa, fb, fx, fy, fl⟩, ⟨um, ua, uh, ula, ulo, ui⟩, 0, 0, 0⟩) rfl rfl 36 _ kR9 (infoSu _) rfl (oneSu _) ?_))
        exact bodyPost_ret (v := suV ⟨⟨fa, fb, fx, fy, fl⟩, ⟨um, ua, uh, ula, ulo, ui⟩, 0, 0, 0⟩) (results_cell_row rfl _ _ (w.heap.size + 1) 36 (suC ⟨⟨fa, fb, fx, fy, fl⟩, ⟨um, ua, uh, ula, ulo, ui⟩, 0, 0, 0⟩) (0, 0) _ rfl (kR9.row _) Tryz.underlying36 rfl (infoSu _)) rfl ⟨by rw [HRR.out], bel_row B9 _ (Nat.le_succ _) _⟩
      · go_wp2_with (first | (with_reducible refine (hUn _).mono ?_; rintro e w8 ⟨rfl, q8⟩; (have kT8 := (kT6.below q8 kT6.lt).alloc (.cells (stC st0) 32); have kR8 := (kR6.below q8 kR6.lt).alloc (.cells (stC st0) 32); have B8 := (bthen B7 q8).alloc (bthen B7 q8).size (.cells (stC st0) 32); clear q8)) | (refine wpList_load_row rfl 36 (.tmp 3) rfl g rfl 36 (suC ⟨⟨fa, fb, fx, fy, fl⟩, st0, 0, 0, 0⟩) (0, 0) _ kT8 Tryz.underlying36 rfl (infoSu _) ?_) | (refine wpList_store_row rfl 36 (.tmp 2) (.tmp 28) rfl (w.heap.size + 1) (suC ⟨⟨fa, fb, fx, fy, fl⟩, st0, 0, 0, 0⟩) rfl rfl 36 _ kR8 (infoSu _) rfl (oneSu _) ?_))
        exact bodyPost_ret (v := suV ⟨⟨fa, fb, fx, fy, fl⟩, st0, 0, 0, 0⟩) (results_cell_row rfl _ _ (w.heap.size + 1) 36 (suC ⟨⟨fa, fb, fx, fy, fl⟩, st0, 0, 0, 0⟩) (0, 0) _ rfl (kR8.row _) Tryz.underlying36 rfl (infoSu _)) rfl ⟨by rw [HRR.out], bel_row B8 _ (Nat.le_succ _) _⟩
    · have hRR : R = ⟨⟨fa, fb, fx, fy, fl⟩, st0, 0, 0, 0⟩ := by rw [HR.out, if_neg hE]
      subst hRR
      have hE2 : (E == 0) = false := by simpa using hE
      go_wp2_with (first | (refine wpList_load_row rfl 36 (.tmp 3) rfl g rfl 36 (suC ⟨⟨fa, fb, fx, fy, fl⟩, st0, 0, 0, 0⟩) (0, 0) _ kT6 Tryz.underlying36 rfl (infoSu _) ?_) | (refine wpList_store_row rfl 36 (.tmp 2) (.tmp 28) rfl (w.heap.size + 1) (suC ⟨⟨fa, fb, fx, fy, fl⟩, st0, 0, 0, 0⟩) rfl rfl 36 _ kR6 (infoSu _) rfl (oneSu _) ?_))
      exact bodyPost_ret (v := suV ⟨⟨fa, fb, fx, fy, fl⟩, st0, 0, 0, 0⟩) (results_cell_row rfl _ _ (w.heap.size + 1) 36 (suC ⟨⟨fa, fb, fx, fy, fl⟩, st0, 0, 0, 0⟩) (0, 0) _ rfl (kR6.row _) Tryz.underlying36 rfl (infoSu _)) rfl ⟨rfl, bel_row B7 _ (Nat.le_succ _) _⟩
end Go.Proofs.YtebkeocpojlepaaGreatDoor

/- super.Kept; a block that is written and no other: Touch. -/
namespace Go.Proofs.YtebkeocpojlepaaGreatDoor
open Go.RowKit
set_option linter.unusedVariables false
set_option linter.unusedSimpArgs false

def keptB (x : Su) : Bool := decide (readE x.f = 0) && decide (packN x.s = (readV x.f).dat)

set_option maxRecDepth 100000 in
set_option maxHeartbeats 4000000 in
theorem Kept_any (x : Su) (hf : x.f.ok) (hs : x.s.ok) (w : World) (hN : NoneG w) :
    Calls Tryz.prog 50 #[suV x] w fun e w' => e = .returned (.bool (keptB x)) ∧ Below w.heap.size w w' := by
  have hRd := Read_pick x.f hf
  have hPk := Pack_any x.s hs
  have hR : keptB x = (decide (readE x.f = 0) && decide (packN x.s = (readV x.f).dat)) := rfl
  have HR := Lib.hid hR
  clear hR
  generalize keptB x = R at *
  generalize readE x.f = E at *
  generalize readV x.f = rv at *
  generalize packN x.s = PN at *
  obtain ⟨rb, rg, rq, rd⟩ := rv
  obtain ⟨⟨fa, fb, fx, fy, fl⟩, ⟨m, ar, ho, la, lo, is⟩, ph, vv, vn⟩ := x
  have k0 := Blk.new w 36 (suC ⟨⟨fa, fb, fx, fy, fl⟩, ⟨m, ar, ho, la, lo, is⟩, ph, vv, vn⟩)
  have B0 : Below w.heap.size w (w.alloc (.cells (suC ⟨⟨fa, fb, fx, fy, fl⟩, ⟨m, ar, ho, la, lo, is⟩, ph, vv, vn⟩) 36)) := (Below.refl _ w).alloc (Nat.le_refl _) _
  go_enter Tryz.func50, Tryz.ntmps50
  go_wp2_with fail
  with_reducible refine (hRd _ (hN.below B0)).mono ?_
  rintro e w1 ⟨rfl, q1⟩
  have B1 := bthen B0 q1
  have k1 := (k0.below q1 k0.lt).alloc (.cells (psC ⟨rb, rg, rq, rd⟩) 74)
  have j1 := Blk.new w1 74 (psC ⟨rb, rg, rq, rd⟩)
  have B2 := B1.alloc B1.size (.cells (psC ⟨rb, rg, rq, rd⟩) 74)
  clear q1 k0 B0 B1
  go_wp2_with fail
  generalize World.alloc w1 _ = W2 at *
  have c5 : ∀ m : CalmW W2.heap.size W2, m.val.cell? ⟨w.heap.size, 5, none⟩ = _ := fun m => (k1.below m.below k1.lt).cell 5
  have c6 : ∀ m : CalmW W2.heap.size W2, m.val.cell? ⟨w.heap.size, 6, none⟩ = _ := fun m => (k1.below m.below k1.lt).cell 6
  have c7 : ∀ m : CalmW W2.heap.size W2, m.val.cell? ⟨w.heap.size, 7, none⟩ = _ := fun m => (k1.below m.below k1.lt).cell 7
  have c8 : ∀ m : CalmW W2.heap.size W2, m.val.cell? ⟨w.heap.size, 8, none⟩ = _ := fun m => (k1.below m.below k1.lt).cell 8
  have c9 : ∀ m : CalmW W2.heap.size W2, m.val.cell? ⟨w.heap.size, 9, none⟩ = _ := fun m => (k1.below m.below k1.lt).cell 9
  have c10 : ∀ m : CalmW W2.heap.size W2, m.val.cell? ⟨w.heap.size, 10, none⟩ = _ := fun m => (k1.below m.below k1.lt).cell 10
  have d3 : ∀ m : CalmW W2.heap.size W2, m.val.cell? ⟨w1.heap.size, 3, none⟩ = _ := fun m => (j1.below m.below j1.lt).cell 3
  simp at c5 c6 c7 c8 c9 c10 d3
  by_cases hE : E = 0
  · subst hE
    by_cases hD : PN = rd
    · have hRR : R = true := by rw [HR.out]; simp [hD]
      subst hD hRR
      clear HR
      (refine wp_region_calm (W2.heap.size) (by kernel_rfl) (by kernel_rfl) ?_; (repeat (go_big_quiet_step ((with_reducible refine calm_of (Nat.le_refl _) (hPk _))))); refine wpQuiet_nil ?_; intro W4 hw'; obtain ⟨⟨_, hW4⟩, hw''⟩ := hw'; subst hw'')
      have B4 := bthen B2 hW4
      clear c5 c6 c7 c8 c9 c10 d3
      go_wp2
      go_ret
      exact ⟨rfl, B4⟩
    · have hRR : R = false := by rw [HR.out]; simp [hD]
      have hD1 : (PN == rd) = false := by simpa using hD
      have hD2 : ((PN : Int) == (rd : Int)) = false := by simp; omega
      subst hRR
      clear HR hD
      (refine wp_region_calm (W2.heap.size) (by kernel_rfl) (by kernel_rfl) ?_; (repeat (go_big_quiet_step ((with_reducible refine calm_of (Nat.le_refl _) (hPk _))))); refine wpQuiet_nil ?_; intro W4 hw'; obtain ⟨⟨_, hW4⟩, hw''⟩ := hw'; subst hw'')
      have B4 := bthen B2 hW4
      clear c5 c6 c7 c8 c9 c10 d3
      go_wp2
      go_ret
      exact ⟨rfl, B4⟩
  · have hRR : R = false := by rw [HR.out]; simp [hE]
    have hE1 : (E == 0) = false := by simpa using hE
    subst hRR
    clear HR hE
    (refine wp_region_calm (W2.heap.size) (by kernel_rfl) (by kernel_rfl) ?_; (repeat (go_big_quiet_step (fail))); refine wpQuiet_nil ?_; intro W4 hw'; obtain ⟨⟨_, hW4⟩, hw''⟩ := hw'; subst hw'')
    have B4 := bthen B2 hW4
    clear c5 c6 c7 c8 c9 c10 d3
    go_wp2
    go_ret
    exact ⟨rfl, B4⟩

/-! Touch: one block is written, new ones are made, all else is as it was -/
def Touch (X : Nat) (w w' : World) : Prop := Below X w w' ∧ ∀ k, k ≠ X → k < w.heap.size → w'.heap[k]? = w.heap[k]?
theorem Touch.refl (X : Nat) (w : World) : Touch X w w := ⟨Below.refl _ _, fun _ _ _ => rfl⟩
theorem Touch.trans {X : Nat} {a b c : World} (h : Touch X a b) (k : Touch X b c) : Touch X a c :=
  ⟨h.1.trans k.1, fun i h1 h2 => (k.2 i h1 (Nat.lt_of_lt_of_le h2 h.1.size)).trans (h.2 i h1 h2)⟩
theorem Touch.of_below {X : Nat} {w w' : World} (h : Below w.heap.size w w') (hX : X ≤ w.heap.size) : Touch X w w' := ⟨h.mono hX, fun k _ hk => h.block k hk⟩
theorem Touch.blk {X A : Nat} {w w' : World} {t : TypeId} {cs : Array Value} (h : Touch X w w') (k : Blk w A t cs) (hA : A ≠ X) : Blk w' A t cs := (h.2 A hA k.lt).trans k
theorem Touch.below {X base : Nat} {w0 w w' : World} (h : Touch X w w') (hb : Below base w0 w) (hB : base ≤ X) : Below base w0 w' := hb.trans (h.1.mono hB)
theorem Touch.cells {X : Nat} : ∀ (vs : List Value) (o : Nat) (w : World), Touch X w (w.setCells X o vs)
  | [], _, w => Touch.refl X w
  | v :: r, o, w => Touch.trans (b := w.setCell ⟨X, o, none⟩ v) ⟨(Below.refl X w).setCell (p := ⟨X, o, none⟩) (Nat.le_refl _) v, fun k hk _ => heap_setCell_other w _ k v hk⟩ (Touch.cells r (o + 1) _)
theorem Touch.none {X : Nat} {w w' : World} (h : Touch X w w') (hN : NoneG w) (hX : X ≠ 0) : NoneG w' := by
  obtain ⟨tt, fr, hf⟩ := hN
  exact ⟨tt, fr, (h.2 0 (Ne.symm hX) (Array.getElem?_eq_some_iff.1 hf).1).trans hf⟩

theorem wpList_store_touch {P : Program} {ops : Array Oper} {rest : List Oper} {o : Oper} {a : Act} {w : World} {Q : Exit → Act → World → Prop} (hgd : o.guard = none) (ty : TypeId) (x y : Operand) (ho : o.op = .store ty x y)
    (g off : Nat) (new : Array Value) (hx : a.eval x = .pointer (some ⟨g, off, none⟩)) (hy : a.eval y = .agg new) (t : TypeId) (cs : Array Value) (k : Blk w g t cs) (hfit : off + new.size ≤ cs.size)
    (hi : (P.info? ty).map (·.size) = some new.size) (h1 : new.all (·.oneCell') = true) (cs2 : Array Value) (hcs : cs2 = setAll cs off new.toList)
    (h : ∀ W', Blk W' g t cs2 → Touch g w W' → wpList P ops Q rest (a.put o.dst undef) W') : wpList P ops Q (o :: rest) a w := by
  refine wpList_store_mid hgd ty x y ho g off new hx hy (there_part k hfit) hi h1 ?_
  subst hcs
  exact h _ (blk_cells _ _ _ _ k) (Touch.cells _ _ _)
end Go.Proofs.YtebkeocpojlepaaGreatDoor

/- command.first and enough. -/
namespace Go.Proofs.YtebkeocpojlepaaGreatDoor
open Go.RowKit
set_option linter.unusedVariables false
set_option linter.unusedSimpArgs false

/-- the first of the errors whose conditions do not hold -/
def whyE : List (Bool × Int) → Int
  | [] => 0
  | a :: r => if a.1 then whyE r else a.2

set_option maxRecDepth 100000 in
theorem cfirst_any (L : List (Bool × Int)) (hl : L.length ≤ 10) (g c : Nat) (w : World) (hg : g < w.heap.size)
    (hc : ∀ k (h : k < L.length), w.cell? ⟨g, k * 2, none⟩ = some (.bool L[k].1) ∧ w.cell? ⟨g, k * 2 + 1, none⟩ = some (.int .i64 L[k].2)) :
    Calls Tryz.prog 57 #[.slice (some ⟨g, 0, none⟩) L.length c] w fun e w' => e = .returned (.int .i64 (whyE L)) ∧ Below w.heap.size w w' := by
  have HC := Lib.hid hc
  clear hc
  go_enter Tryz.func57, Tryz.ntmps57
  go_wp2_with fail
  go_loopw [7] (fun i wr => ∃ k : Nat, k ≤ L.length ∧ i = .int .i64 k ∧ whyE L = whyE (L.drop k) ∧ Below w.heap.size w wr) (fun i _ => L.length - (intOf i).toNat)
  case atStart => exact ⟨0, by omega, rfl, rfl, Below.refl _ _⟩
  case round =>
    obtain ⟨k, hk, rfl, hw, hb⟩ := hrel
    by_cases hlt : k < L.length
    · obtain ⟨h1, h2⟩ := HC.out k hlt
      have c1 : wr.cell? ⟨g, k * 2, none⟩ = some (.bool L[k].1) := (hb.cell (p := ⟨g, k * 2, none⟩) hg).trans h1
      have c2 : wr.cell? ⟨g, k * 2 + 1, none⟩ = some (.int .i64 L[k].2) := (hb.cell (p := ⟨g, k * 2 + 1, none⟩) hg).trans h2
      have hd : whyE (L.drop k) = if L[k].1 then whyE (L.drop (k + 1)) else L[k].2 := by
        rw [List.drop_eq_getElem_cons hlt]; rfl
      have HD := Lib.hid (hw.trans hd)
      clear h1 h2 hw hd
      generalize L[k] = a at *
      obtain ⟨b, e⟩ := a
      have hz := hb.size
      cases b
      · go_wp2
        go_ret
        exact ⟨by rw [HD.out]; rfl, hb.alloc (by omega) _⟩
      · go_wp2
        exact ⟨⟨k + 1, by omega, by go_num, by rw [HD.out]; rfl, hb.alloc (by omega) _⟩, by simp [intOf]; omega⟩
    · have hk2 : k = L.length := by omega
      subst hk2
      rw [List.drop_length] at hw
      go_wp2
      go_ret
      exact ⟨by rw [hw]; rfl, hb⟩

theorem enough_any (X : Nat) (s : St) (n : Int) (w : World) (hX : Blk w X 85 (stC s)) :
    Calls Tryz.prog 60 #[.pointer (some ⟨X, 0, none⟩), .int .i64 n] w fun e w' => e = .returned (.bool (decide (n ≤ soundI s.iso))) ∧ Below w.heap.size w w' := by
  have hS := sSound_any s
  have k0 := hX
  obtain ⟨m, ar, ho, la, lo, is⟩ := s
  have r0 := k0.cell 0
  have r1 := k0.cell 1
  have r2 := k0.cell 2
  have r3 := k0.cell 3
  have r4 := k0.cell 4
  have r5 := k0.cell 5
  simp [stC] at r0 r1 r2 r3 r4 r5
  simp [stV, stC] at hS
  go_enter Tryz.func60, Tryz.ntmps60
  go_wp2_with (with_reducible refine (hS _).mono ?_; rintro e w1 ⟨rfl, b1⟩)
  go_ret
  exact ⟨rfl, b1⟩
end Go.Proofs.YtebkeocpojlepaaGreatDoor

/- (*super.Super).write. -/
namespace Go.Proofs.YtebkeocpojlepaaGreatDoor
open Go.RowKit
set_option linter.unusedVariables false
set_option linter.unusedSimpArgs false

theorem packN_lt (s : St) : packN s < 18446744073709551616 := by
  unfold packN
  split
  · have h1 : pkA s 1 = pkA s 0 * 256 + ((fstN s : Int) % 256).toNat := rfl
    have h2 : pkA s 2 = pkA s 1 * 256 + (s.iso % 256).toNat := rfl
    have h3 : pkA s 3 = pkA s 2 * 16777216 + (s.lat % 16777216).toNat := rfl
    have h4 : pkA s 4 = pkA s 3 * 16777216 + (s.lon % 16777216).toNat := rfl
    have h0 : pkA s 0 = 0 := rfl
    omega
  · decide

def wrX (x : Su) (t : St) (cut : Int) (mask : ByteArray) : Su :=
  if planE x.f ≠ 0 then { x with ph := 2 } else if putA x.f (packN t) cut mask = false then { x with f := putF x.f (packN t) cut mask, ph := 3 } else { x with f := putF x.f (packN t) cut mask, s := t }
def wrE (x : Su) (t : St) (cut : Int) (mask : ByteArray) : Bool := if planE x.f ≠ 0 then false else putA x.f (packN t) cut mask
def stopV (n : Int) : Value := .iface 67 (.agg #[.int .i64 n])
def wrEnd (ok : Bool) : Ending := if ok then .returned (.tuple #[]) else .panicked [{ v := .iface 67 (.agg #[.int .i64 26]), recovered := false }]

theorem suSetF (x : Su) (f : Fl) : suC { x with f := f } = setAll (suC x) 0 (flC f).toList := by kernel_rfl
theorem suFitF (x : Su) (f : Fl) : 0 + (flC f).size ≤ (suC x).size := by show 5 ≤ 14; decide
theorem infoFl (f : Fl) : (Tryz.prog.info? 30).map (·.size) = some (flC f).size := by kernel_rfl
theorem oneFl (f : Fl) : (flC f).all (·.oneCell') = true := by kernel_rfl
theorem run_store_row {P : Program} {o : Oper} {a : Act} {w : World} (ty : TypeId) (x y : Operand) (ho : o.op = .store ty x y)
    (g : Nat) (cells : Array Value) (hx : a.eval x = .pointer (some ⟨g, 0, none⟩)) (hy : a.eval y = .agg cells)
    (t : TypeId) (old : Array Value) (hg : w.heap[g]? = some (.cells old t (0, 0))) (hi : (P.info? ty).map (·.size) = some cells.size)
    (hold : old.size = cells.size) (h1 : cells.all (·.oneCell') = true) : (execOp a.eval o).run P w = .ok .skip (w.setRow g cells) := by
  unfold execOp
  simp only [ho, hx, hy, Instr.storeAt, Instr.sureAddr, Sem.run_bind, Sem.run_pure, Result.andThen_ok, run_storeVar_row w g t ty old cells hg hi hold h1]
theorem touch_one (X j : Nat) (v : Value) (w : World) : Touch X w (w.setCell ⟨X, j, none⟩ v) := Touch.cells [v] j w

set_option maxRecDepth 100000 in
set_option maxHeartbeats 4000000 in
theorem write_any (x : Su) (hf : x.f.ok) (t : St) (ht : t.ok) (cut : Int) (mask : ByteArray) (hm : mask.size ≤ 1000) (w : World) (X : Nat) (kX : Blk w X 36 (suC x)) (hX : X ≠ 0) (hN : NoneG w) :
    Calls Tryz.prog 26 #[.pointer (some ⟨X, 0, none⟩), stV t, .agg #[.int .i64 cut, .string mask]] w fun e w' =>
      e = wrEnd (wrE x t cut mask) ∧ Blk w' X 36 (suC (wrX x t cut mask)) ∧ Touch X w w' := by
  have hPk := Pack_any t ht
  have hPut := Put_any' x.f hf (packN t) (packN_lt t) cut mask hm
  have hR : wrX x t cut mask = if planE x.f ≠ 0 then { x with ph := 2 } else if putA x.f (packN t) cut mask = false then { x with f := putF x.f (packN t) cut mask, ph := 3 } else { x with f := putF x.f (packN t) cut mask, s := t } := rfl
  have hE : wrE x t cut mask = if planE x.f ≠ 0 then false else putA x.f (packN t) cut mask := rfl
  generalize wrX x t cut mask = R at *
  generalize wrE x t cut mask = RE at *
  generalize putA x.f (packN t) cut mask = acked at *
  generalize putF x.f (packN t) cut mask = f2 at *
  generalize planE x.f = PE at *
  generalize packN t = PN at *
  have HR := Lib.hid hR
  have HE := Lib.hid hE
  clear hR hE
  obtain ⟨⟨fa, fb, fx, fy, fl⟩, ⟨m, ar, ho, la, lo, is⟩, ph, vv, vn⟩ := x
  obtain ⟨tm, ta, th, tla, tlo, ti⟩ := t
  obtain ⟨ga, gb, gx, gy, gl⟩ := f2
  have hXl := kX.lt
  have kX0 := (kX.alloc (.cells (stC ⟨tm, ta, th, tla, tlo, ti⟩) 32)).alloc (.cells #[.int .i64 cut, .string mask] 48)
  have kT := (Blk.new w 32 (stC ⟨tm, ta, th, tla, tlo, ti⟩)).alloc (.cells #[.int .i64 cut, .string mask] 48)
  have kP := Blk.new (w.alloc (.cells (stC ⟨tm, ta, th, tla, tlo, ti⟩) 32)) 48 #[.int .i64 cut, .string mask]
  rw [World.size_alloc] at kP
  have B0 : Below w.heap.size w ((w.alloc (.cells (stC ⟨tm, ta, th, tla, tlo, ti⟩) 32)).alloc (.cells #[.int .i64 cut, .string mask] 48)) := ((Below.refl _ w).alloc (Nat.le_refl _) _).alloc (by simp) _
  go_enter Tryz.func26, Tryz.ntmps26
  go_wp2_with fail
  have N0 := hN.below B0
  generalize World.alloc (World.alloc w _) _ = W0 at *
  refine wp_region_chain W0.heap.size 16 17 [true, true, true, true, true, true, true, true, true, true, true, true, true, true, true, true, false, false, false, false] [false, false, false, false, false, false, false, false, false, false, false, false, false, false, false, false, false, false, true, true]
    #[true, true, true, true, true, true, true, true, true, true, true, true, true, true, true, true, false, false, false, false] #[true, true, true, true, true, true, true, true, true, true, true, true, true, true, true, true, true, true, true, true]
    (fun v w' => ∃ g, v = .pointer (some ⟨g, 0, none⟩) ∧ W0.heap.size ≤ g ∧ Blk w' g 30 zC) (fun v w' => ∃ g, v = .pointer (some ⟨g, 0, none⟩) ∧ W0.heap.size ≤ g ∧ Blk w' g 30 (flC ⟨ga, gb, gx, gy, gl⟩)) (by kernel_rfl) (by kernel_rfl) rfl (Nat.le_refl _) rfl rfl ?_ ?_ (by kernel_rfl) ?_
  case refine_1 => rintro v w1 w2 ⟨g, rfl, hg, hB⟩ hb; exact ⟨g, rfl, hg, hB.below hb hB.lt⟩
  case refine_2 => rintro v w1 w2 ⟨g, rfl, hg, hB⟩ hb; exact ⟨g, rfl, hg, hB.below hb hB.lt⟩
  apply Exists.intro
  refine ⟨?_, ?_, ?_⟩
  case refine_1 =>
    intro Z hZ hNE
    have c0 : ∀ m : CalmX W0.heap.size W0 Z, m.val.cell? ⟨X, 0, none⟩ = some (.string fa) := fun m => (kX0.below m.below kX0.lt).cell 0
    have c1 : ∀ m : CalmX W0.heap.size W0 Z, m.val.cell? ⟨X, 1, none⟩ = some (.string fb) := fun m => (kX0.below m.below kX0.lt).cell 1
    have c2 : ∀ m : CalmX W0.heap.size W0 Z, m.val.cell? ⟨X, 2, none⟩ = some (.int .i64 fx) := fun m => (kX0.below m.below kX0.lt).cell 2
    have c3 : ∀ m : CalmX W0.heap.size W0 Z, m.val.cell? ⟨X, 3, none⟩ = some (.int .i64 fy) := fun m => (kX0.below m.below kX0.lt).cell 3
    have c4 : ∀ m : CalmX W0.heap.size W0 Z, m.val.cell? ⟨X, 4, none⟩ = some (.int .i64 fl) := fun m => (kX0.below m.below kX0.lt).cell 4
    have d0 : ∀ m : CalmX W0.heap.size W0 Z, m.val.cell? ⟨w.heap.size, 0, none⟩ = some (.int .i64 tm) := fun m => (kT.below m.below kT.lt).cell 0
    have d1 : ∀ m : CalmX W0.heap.size W0 Z, m.val.cell? ⟨w.heap.size, 1, none⟩ = some (.bool ta) := fun m => (kT.below m.below kT.lt).cell 1
    have d2 : ∀ m : CalmX W0.heap.size W0 Z, m.val.cell? ⟨w.heap.size, 2, none⟩ = some (.bool th) := fun m => (kT.below m.below kT.lt).cell 2
    have d3 : ∀ m : CalmX W0.heap.size W0 Z, m.val.cell? ⟨w.heap.size, 3, none⟩ = some (.int .i64 tla) := fun m => (kT.below m.below kT.lt).cell 3
    have d4 : ∀ m : CalmX W0.heap.size W0 Z, m.val.cell? ⟨w.heap.size, 4, none⟩ = some (.int .i64 tlo) := fun m => (kT.below m.below kT.lt).cell 4
    have d5 : ∀ m : CalmX W0.heap.size W0 Z, m.val.cell? ⟨w.heap.size, 5, none⟩ = some (.int .i64 ti) := fun m => (kT.below m.below kT.lt).cell 5
    have p0 : ∀ m : CalmX W0.heap.size W0 Z, m.val.cell? ⟨w.heap.size + 1, 0, none⟩ = some (.int .i64 cut) := fun m => (kP.below m.below kP.lt).cell 0
    have p1 : ∀ m : CalmX W0.heap.size W0 Z, m.val.cell? ⟨w.heap.size + 1, 1, none⟩ = some (.string mask) := fun m => (kP.below m.below kP.lt).cell 1
    have cN : ∀ m : CalmX W0.heap.size W0 Z, NoneG m.val := fun m => N0.below m.below
    simp only [keepM]
    repeat (go_big_quiet_step (first | (with_reducible refine calmX_of hZ (Nat.le_refl _) (hPk _)) | (with_reducible refine calmX_of hZ (Nat.le_refl _) (hPut _ (cN _)))))
    exact wpQuiet_nil rfl
  case refine_2 =>
    refine ⟨rfl, ?_⟩
    intro w1 hb
    refine ⟨.pointer (some ⟨w1.heap.size, 0, none⟩), w1.alloc (.cells zC 30), ?_, (Below.refl _ _).alloc (Nat.le_refl _) _, ⟨_, rfl, hb.size, Blk.new _ _ _⟩⟩
    go_simp
  case refine_3 =>
    rintro v hNE
    obtain ⟨⟨wv, _, g, rfl, hg0, _⟩⟩ := hNE
    refine ⟨⟨rfl, ?_⟩, ?_⟩
    · rintro w1 ⟨⟨w2, b2, g', e, hg, kT2⟩, rfl⟩
      cases e
      refine ⟨undef, _, .inr ⟨rfl, run_store_row 30 (.tmp 6) (.tmp 22) rfl g (flC ⟨ga, gb, gx, gy, gl⟩) rfl rfl 30 _ kT2 (infoFl _) rfl (oneFl _)⟩, ?_⟩
      exact ⟨⟨_, bel_row b2 g hg _, g, rfl, hg, kT2.row _⟩, rfl⟩
    · intro u hNE2
      simp only [keepM, Act.put, List.setIfInBounds_toArray, List.set_cons_succ, List.set_cons_zero]
      repeat (go_big_quiet_step (fail))
      refine wpQuiet_nil ?_
      rintro W5 ⟨⟨w6, b6, g', e, hg, kG⟩, rfl⟩
      cases e
      have kX5 := kX0.below b6 kX0.lt
      have kT5 := kT.below b6 kT.lt
      have T5 : Touch X w W5 := Touch.of_below (B0.trans (b6.mono B0.size)) (Nat.le_of_lt hXl)
      have hgX : g ≠ X := by have := kX0.lt; omega
      have htX : w.heap.size ≠ X := by omega
      clear kX0 kT kP B0 b6 N0 hPk hPut kX
      have g_0 := kG.cell 0
      have g_1 := kG.cell 1
      have g_2 := kG.cell 2
      have g_3 := kG.cell 3
      have g_4 := kG.cell 4
      simp at g_0 g_1 g_2 g_3 g_4
      by_cases hP0 : PE = 0
      · subst hP0
        cases acked
        · have hRR : R = ⟨⟨ga, gb, gx, gy, gl⟩, ⟨m, ar, ho, la, lo, is⟩, 3, vv, vn⟩ := by rw [HR.out, if_neg (by decide), if_pos rfl]
          have hEE : RE = false := by rw [HE.out, if_neg (by decide)]
          subst hRR hEE
          go_wp2_with (refine wpList_store_touch rfl 30 (.tmp 35) (.tmp 33) rfl X 0 (flC ⟨ga, gb, gx, gy, gl⟩) rfl rfl 36 (suC ⟨⟨fa, fb, fx, fy, fl⟩, ⟨m, ar, ho, la, lo, is⟩, ph, vv, vn⟩) kX5 (suFitF _ _) (infoFl _) (oneFl _) (suC ⟨⟨ga, gb, gx, gy, gl⟩, ⟨m, ar, ho, la, lo, is⟩, ph, vv, vn⟩) (suSetF ⟨⟨fa, fb, fx, fy, fl⟩, ⟨m, ar, ho, la, lo, is⟩, ph, vv, vn⟩ ⟨ga, gb, gx, gy, gl⟩) ?_; intro W6 kX6 T6; have x_11 := kX6.cell 11; simp at x_11; have z_11 := kX6.frozen 11)
          refine ⟨rfl, rfl, ?_, (T5.trans T6).trans (touch_one X 11 (.int .i64 3) W6)⟩
          simpa using kX6.set 11 (.int .i64 3)
        · have hRR : R = ⟨⟨ga, gb, gx, gy, gl⟩, ⟨tm, ta, th, tla, tlo, ti⟩, ph, vv, vn⟩ := by rw [HR.out, if_neg (by decide), if_neg (by decide)]
          have hEE : RE = true := by rw [HE.out, if_neg (by decide)]
          subst hRR hEE
          go_wp2_with (first | (refine wpList_store_touch rfl 30 (.tmp 35) (.tmp 33) rfl X 0 (flC ⟨ga, gb, gx, gy, gl⟩) rfl rfl 36 (suC ⟨⟨fa, fb, fx, fy, fl⟩, ⟨m, ar, ho, la, lo, is⟩, ph, vv, vn⟩) kX5 (suFitF _ _) (infoFl _) (oneFl _) (suC ⟨⟨ga, gb, gx, gy, gl⟩, ⟨m, ar, ho, la, lo, is⟩, ph, vv, vn⟩) (suSetF ⟨⟨fa, fb, fx, fy, fl⟩, ⟨m, ar, ho, la, lo, is⟩, ph, vv, vn⟩ ⟨ga, gb, gx, gy, gl⟩) ?_; intro W6 kX6 T6; have kT6 := T6.blk kT5 htX) | (refine wpList_load_row rfl 32 (.tmp 4) rfl w.heap.size rfl 32 (stC ⟨tm, ta, th, tla, tlo, ti⟩) (0, 0) _ kT6 Tryz.underlying32 rfl (infoSt _) ?_) | (refine wpList_store_touch rfl 32 (.tmp 46) (.tmp 44) rfl X 5 (stC ⟨tm, ta, th, tla, tlo, ti⟩) rfl rfl 36 (suC ⟨⟨ga, gb, gx, gy, gl⟩, ⟨m, ar, ho, la, lo, is⟩, ph, vv, vn⟩) kX6 (suFit _ _) (infoSt _) (oneSt _) (suC ⟨⟨ga, gb, gx, gy, gl⟩, ⟨tm, ta, th, tla, tlo, ti⟩, ph, vv, vn⟩) (suSet ⟨⟨ga, gb, gx, gy, gl⟩, ⟨m, ar, ho, la, lo, is⟩, ph, vv, vn⟩ ⟨tm, ta, th, tla, tlo, ti⟩) ?_; intro W7 kX7 T7))
          go_end0
          exact ⟨rfl, kX7, (T5.trans T6).trans T7⟩
      · have hRR : R = ⟨⟨fa, fb, fx, fy, fl⟩, ⟨m, ar, ho, la, lo, is⟩, 2, vv, vn⟩ := by rw [HR.out, if_pos hP0]
        have hEE : RE = false := by rw [HE.out, if_pos hP0]
        have hP1 : (PE != 0) = true := by simpa using hP0
        subst hRR hEE
        have x_11 := kX5.cell 11
        simp at x_11
        have z_11 := kX5.frozen 11
        go_wp2
        refine ⟨rfl, rfl, ?_, T5.trans (touch_one X 11 (.int .i64 2) W5)⟩
        simpa using kX5.set 11 (.int .i64 2)
end Go.Proofs.YtebkeocpojlepaaGreatDoor

/- command's craft: arm, disarm, home, sensor, goes. -/
namespace Go.Proofs.YtebkeocpojlepaaGreatDoor
open Go.RowKit
set_option linter.unusedVariables false
set_option linter.unusedSimpArgs false

/-- a method of the craft at block X: its error, the state it leaves -/
def CraftPost (X : Nat) (w : World) (S : St) (E : Int) (e : Ending) (w' : World) : Prop := e = .returned (.int .i64 E) ∧ Blk w' X 85 (stC S) ∧ Touch X w w'

set_option maxRecDepth 100000 in
set_option maxHeartbeats 4000000 in
theorem arm_any (s : St) (c : Cm) (X : Nat) (w : World) (kX : Blk w X 85 (stC s)) :
    Calls Tryz.prog 37 #[.pointer (some ⟨X, 0, none⟩), cmV c] w (CraftPost X w { s with armed := true, mode := 1 } (if s.armed then 21 else if soundI s.iso < 2 then 24 else 0)) := by
  have hEn := fun (W : World) (k : Blk W X 85 (stC s)) => enough_any X s 2 W k
  have hF := fun (W : World) (g cp : Nat) (hg : g < W.heap.size) => cfirst_any [(!s.armed, 21), (decide (2 ≤ soundI s.iso), 24)] (by simp) g cp W hg
  have hE : (if s.armed then 21 else if soundI s.iso < 2 then 24 else 0 : Int) = whyE [(!s.armed, 21), (decide (2 ≤ soundI s.iso), 24)] := by
    cases s.armed
    · by_cases h : soundI s.iso < 2
      · simp [whyE, h]
      · simp [whyE, h]
    · rfl
  rw [hE]
  clear hE
  obtain ⟨m, ar, ho, la, lo, is⟩ := s
  obtain ⟨ck, cn, ca, co⟩ := c
  simp only at hEn hF ⊢
  generalize decide (2 ≤ soundI is) = en at *
  have kX0 := kX.alloc (.cells (cmC ⟨ck, cn, ca, co⟩) 25)
  have kC := Blk.new w 25 (cmC ⟨ck, cn, ca, co⟩)
  have B0 : Below w.heap.size w (w.alloc (.cells (cmC ⟨ck, cn, ca, co⟩) 25)) := (Below.refl _ w).alloc (Nat.le_refl _) _
  go_enter Tryz.func37, Tryz.ntmps37
  go_wp2_with fail
  generalize World.alloc w _ = W0 at *
  have x_1 : ∀ n : CalmW W0.heap.size W0, n.val.cell? ⟨X, 1, none⟩ = some (.bool ar) := fun n => ((kX0.below n.below kX0.lt).cell 1).trans (by simp)
  have hEn2 := fun n : CalmW W0.heap.size W0 => hEn n.val (kX0.below n.below kX0.lt)
  refine wp_region_calm_head W0.heap.size 10 3 #[true, true, true, true, true, true, true, true, true, true, false, false, false] (by kernel_rfl) (by kernel_rfl) rfl ?_
  simp only [List.take_succ_cons, List.take_zero]
  repeat (go_big_quiet_step ((with_reducible refine calm_of (Nat.le_refl _) (hEn2 _))))
  refine wpQuiet_nil ?_
  intro W4 hw4
  obtain ⟨⟨W5, b4⟩, hw5⟩ := hw4
  obtain rfl : W4 = W5 := hw5
  clear x_1
  refine wpAny_ready (rs := [10]) (by kernel_rfl) (by simp) ?_
  refine AllReady.cons rfl (fun K hK => ?_) AllReady.nil
  go_simp
  refine hK _ _ ?_
  clear hK K
  have B4 := bthen B0 b4
  have kX4 := (kX0.below b4 kX0.lt).alloc (.cells #[.bool !ar, .int .i64 21, .bool en, .int .i64 24] 120)
  have kC4 := (kC.below b4 kC.lt).alloc (.cells #[.bool !ar, .int .i64 21, .bool en, .int .i64 24] 120)
  have kS := Blk.new W4 120 #[.bool !ar, .int .i64 21, .bool en, .int .i64 24]
  have B5 := B4.alloc B4.size (.cells #[.bool !ar, .int .i64 21, .bool en, .int .i64 24] 120)
  generalize World.alloc W4 _ = W6 at *
  have hF6 := hF W6 W4.heap.size 2 kS.lt (by
    intro k hk
    have hk2 : k = 0 ∨ k = 1 := by simp at hk; omega
    rcases hk2 with rfl | rfl <;> exact ⟨(kS.cell _).trans (by simp), (kS.cell _).trans (by simp)⟩)
  refine wpAny_ready (rs := [11]) (by kernel_rfl) (by simp) ?_
  refine AllReady.cons rfl (fun K hK => ?_) AllReady.nil
  go_simp
  refine hF6.mono ?_
  rintro e w7 ⟨rfl, q7⟩
  refine hK _ _ ?_
  clear hK K hF6 hF hEn hEn2
  have kX7 := kX4.below q7 kX4.lt
  have kC7 := kC4.below q7 kC4.lt
  have B7 := bthen B5 q7
  clear kX4 kX0 kS B4 B5 b4 B0
  refine wpAny_ready (rs := [12]) (by kernel_rfl) (by simp) ?_
  refine AllReady.cons rfl (fun K hK => ?_) AllReady.nil
  go_simp
  refine hK _ _ ?_
  clear hK K
  refine wpAny_done (by kernel_rfl) ?_ _
  have T7 : Touch X w w7 := Touch.of_below B7 (Nat.le_of_lt kX.lt)
  have k8 := (kX7.set 1 (.bool true)).set 0 (.int .i64 1)
  have T8 := (T7.trans (touch_one X 1 (.bool true) w7)).trans (touch_one X 0 (.int .i64 1) _)
  have z_0 := kX7.frozen 0
  have z_1 := kX7.frozen 1
  have s_0 := kX7.cell 0
  have s_1 := kX7.cell 1
  simp at s_0 s_1
  go_wp2
  go_ret
  exact ⟨rfl, by simpa using k8, T8⟩

set_option maxRecDepth 100000 in
set_option maxHeartbeats 4000000 in
theorem disarm_any (s : St) (c : Cm) (X : Nat) (w : World) (kX : Blk w X 85 (stC s)) :
    Calls Tryz.prog 38 #[.pointer (some ⟨X, 0, none⟩), cmV c] w (CraftPost X w { s with armed := false, mode := 0 } (if s.armed = false then 22 else if s.mode ≠ 1 ∧ s.mode ≠ 5 then 20 else 0)) := by
  obtain ⟨m, ar, ho, la, lo, is⟩ := s
  obtain ⟨ck, cn, ca, co⟩ := c
  simp only
  obtain ⟨E, hE⟩ : ∃ E : Int, E = (if ar = false then 22 else if m ≠ 1 ∧ m ≠ 5 then 20 else 0) := ⟨_, rfl⟩
  rw [← hE]
  have kX0 := kX.alloc (.cells (cmC ⟨ck, cn, ca, co⟩) 25)
  have kC := Blk.new w 25 (cmC ⟨ck, cn, ca, co⟩)
  have B0 : Below w.heap.size w (w.alloc (.cells (cmC ⟨ck, cn, ca, co⟩) 25)) := (Below.refl _ w).alloc (Nat.le_refl _) _
  by_cases h1 : m = 1
  · subst h1
    have hF := fun (W : World) (g cp : Nat) (hg : g < W.heap.size) => cfirst_any [(ar, 22), (true, 20)] (by simp) g cp W hg
    have hE2 : E = whyE [(ar, 22), (true, 20)] := by rw [hE]; cases ar <;> simp [whyE, *]
    have HE := Lib.hid hE2
    clear hE hE2
    go_enter Tryz.func38, Tryz.ntmps38
    go_wp2_with fail
    generalize World.alloc w _ = W0 at *
    have x_1 : ∀ n : CalmW W0.heap.size W0, n.val.cell? ⟨X, 1, none⟩ = some (.bool ar) := fun n => ((kX0.below n.below kX0.lt).cell 1).trans (by simp)
    have x_0 : ∀ n : CalmW W0.heap.size W0, n.val.cell? ⟨X, 0, none⟩ = some (.int .i64 1) := fun n => ((kX0.below n.below kX0.lt).cell 0).trans (by simp)
    refine wp_region_calm_head W0.heap.size 21 3 #[true, true, true, true, true, true, true, true, true, true, true, true, true, true, true, true, true, true, true, true, true, false, false, false] (by kernel_rfl) (by kernel_rfl) rfl ?_
    simp only [List.take_succ_cons, List.take_zero]
    repeat (go_big_quiet_step (fail))
    refine wpQuiet_nil ?_
    intro W4 hw4
    obtain ⟨⟨W5, b4⟩, hw5⟩ := hw4
    obtain rfl : W4 = W5 := hw5
    clear x_1 x_0
    have hEn := True.intro
    have hEn2 := True.intro
    refine wpAny_ready (rs := [21]) (by kernel_rfl) (by simp) ?_
    refine AllReady.cons rfl (fun K hK => ?_) AllReady.nil
    go_simp
    refine hK _ _ ?_
    clear hK K
    have B4 := bthen B0 b4
    have kX4 := (kX0.below b4 kX0.lt).alloc (.cells #[.bool ar, .int .i64 22, .bool true, .int .i64 20] 120)
    have kC4 := (kC.below b4 kC.lt).alloc (.cells #[.bool ar, .int .i64 22, .bool true, .int .i64 20] 120)
    have kS := Blk.new W4 120 #[.bool ar, .int .i64 22, .bool true, .int .i64 20]
    have B5 := B4.alloc B4.size (.cells #[.bool ar, .int .i64 22, .bool true, .int .i64 20] 120)
    generalize World.alloc W4 _ = W6 at *
    have hF6 := hF W6 W4.heap.size 2 kS.lt (by
      intro k hk
      have hk2 : k = 0 ∨ k = 1 := by simp at hk; omega
      rcases hk2 with rfl | rfl <;> exact ⟨(kS.cell _).trans (by simp), (kS.cell _).trans (by simp)⟩)
    refine wpAny_ready (rs := [22]) (by kernel_rfl) (by simp) ?_
    refine AllReady.cons rfl (fun K hK => ?_) AllReady.nil
    go_simp
    refine hF6.mono ?_
    rintro e w7 ⟨rfl, q7⟩
    refine hK _ _ ?_
    clear hK K hF6 hF hEn hEn2
    have kX7 := kX4.below q7 kX4.lt
    have kC7 := kC4.below q7 kC4.lt
    have B7 := bthen B5 q7
    clear kX4 kX0 kS B4 B5 b4 B0
    refine wpAny_ready (rs := [23]) (by kernel_rfl) (by simp) ?_
    refine AllReady.cons rfl (fun K hK => ?_) AllReady.nil
    go_simp
    refine hK _ _ ?_
    clear hK K
    refine wpAny_done (by kernel_rfl) ?_ _
    have T7 : Touch X w w7 := Touch.of_below B7 (Nat.le_of_lt kX.lt)
    have k8 := (kX7.set 1 (.bool false)).set 0 (.int .i64 0)
    have T8 := (T7.trans (touch_one X 1 (.bool false) w7)).trans (touch_one X 0 (.int .i64 0) _)
    have z_0 := kX7.frozen 0
    have z_1 := kX7.frozen 1
    have s_0 := kX7.cell 0
    have s_1 := kX7.cell 1
    simp at s_0 s_1
    go_wp2
    go_ret
    exact ⟨by rw [HE.out]; rfl, by simpa using k8, T8⟩
  · have n1 : (m == 1) = false := by simpa using h1
    by_cases h5 : m = 5
    · subst h5
      have hF := fun (W : World) (g cp : Nat) (hg : g < W.heap.size) => cfirst_any [(ar, 22), (true, 20)] (by simp) g cp W hg
      have hE2 : E = whyE [(ar, 22), (true, 20)] := by rw [hE]; cases ar <;> simp [whyE, *]
      have HE := Lib.hid hE2
      clear hE hE2
      go_enter Tryz.func38, Tryz.ntmps38
      go_wp2_with fail
      generalize World.alloc w _ = W0 at *
      have x_1 : ∀ n : CalmW W0.heap.size W0, n.val.cell? ⟨X, 1, none⟩ = some (.bool ar) := fun n => ((kX0.below n.below kX0.lt).cell 1).trans (by simp)
      have x_0 : ∀ n : CalmW W0.heap.size W0, n.val.cell? ⟨X, 0, none⟩ = some (.int .i64 5) := fun n => ((kX0.below n.below kX0.lt).cell 0).trans (by simp)
      refine wp_region_calm_head W0.heap.size 21 3 #[true, true, true, true, true, true, true, true, true, true, true, true, true, true, true, true, true, true, true, true, true, false, false, false] (by kernel_rfl) (by kernel_rfl) rfl ?_
      simp only [List.take_succ_cons, List.take_zero]
      repeat (go_big_quiet_step (fail))
      refine wpQuiet_nil ?_
      intro W4 hw4
      obtain ⟨⟨W5, b4⟩, hw5⟩ := hw4
      obtain rfl : W4 = W5 := hw5
      clear x_1 x_0
      have hEn := True.intro
      have hEn2 := True.intro
      refine wpAny_ready (rs := [21]) (by kernel_rfl) (by simp) ?_
      refine AllReady.cons rfl (fun K hK => ?_) AllReady.nil
      go_simp
      refine hK _ _ ?_
      clear hK K
      have B4 := bthen B0 b4
      have kX4 := (kX0.below b4 kX0.lt).alloc (.cells #[.bool ar, .int .i64 22, .bool true, .int .i64 20] 120)
      have kC4 := (kC.below b4 kC.lt).alloc (.cells #[.bool ar, .int .i64 22, .bool true, .int .i64 20] 120)
      have kS := Blk.new W4 120 #[.bool ar, .int .i64 22, .bool true, .int .i64 20]
      have B5 := B4.alloc B4.size (.cells #[.bool ar, .int .i64 22, .bool true, .int .i64 20] 120)
      generalize World.alloc W4 _ = W6 at *
      have hF6 := hF W6 W4.heap.size 2 kS.lt (by
        intro k hk
        have hk2 : k = 0 ∨ k = 1 := by simp at hk; omega
        rcases hk2 with rfl | rfl <;> exact ⟨(kS.cell _).trans (by simp), (kS.cell _).trans (by simp)⟩)
      refine wpAny_ready (rs := [22]) (by kernel_rfl) (by simp) ?_
      refine AllReady.cons rfl (fun K hK => ?_) AllReady.nil
      go_simp
      refine hF6.mono ?_
      rintro e w7 ⟨rfl, q7⟩
      refine hK _ _ ?_
      clear hK K hF6 hF hEn hEn2
      have kX7 := kX4.below q7 kX4.lt
      have kC7 := kC4.below q7 kC4.lt
      have B7 := bthen B5 q7
      clear kX4 kX0 kS B4 B5 b4 B0
      refine wpAny_ready (rs := [23]) (by kernel_rfl) (by simp) ?_
      refine AllReady.cons rfl (fun K hK => ?_) AllReady.nil
      go_simp
      refine hK _ _ ?_
      clear hK K
      refine wpAny_done (by kernel_rfl) ?_ _
      have T7 : Touch X w w7 := Touch.of_below B7 (Nat.le_of_lt kX.lt)
      have k8 := (kX7.set 1 (.bool false)).set 0 (.int .i64 0)
      have T8 := (T7.trans (touch_one X 1 (.bool false) w7)).trans (touch_one X 0 (.int .i64 0) _)
      have z_0 := kX7.frozen 0
      have z_1 := kX7.frozen 1
      have s_0 := kX7.cell 0
      have s_1 := kX7.cell 1
      simp at s_0 s_1
      go_wp2
      go_ret
      exact ⟨by rw [HE.out]; rfl, by simpa using k8, T8⟩
    · have n5 : (m == 5) = false := by simpa using h5
      have hF := fun (W : World) (g cp : Nat) (hg : g < W.heap.size) => cfirst_any [(ar, 22), (false, 20)] (by simp) g cp W hg
      have hE2 : E = whyE [(ar, 22), (false, 20)] := by rw [hE]; cases ar <;> simp [whyE, *]
      have HE := Lib.hid hE2
      clear hE hE2
      go_enter Tryz.func38, Tryz.ntmps38
      go_wp2_with fail
      generalize World.alloc w _ = W0 at *
      have x_1 : ∀ n : CalmW W0.heap.size W0, n.val.cell? ⟨X, 1, none⟩ = some (.bool ar) := fun n => ((kX0.below n.below kX0.lt).cell 1).trans (by simp)
      have x_0 : ∀ n : CalmW W0.heap.size W0, n.val.cell? ⟨X, 0, none⟩ = some (.int .i64 m) := fun n => ((kX0.below n.below kX0.lt).cell 0).trans (by simp)
      refine wp_region_calm_head W0.heap.size 21 3 #[true, true, true, true, true, true, true, true, true, true, true, true, true, true, true, true, true, true, true, true, true, false, false, false] (by kernel_rfl) (by kernel_rfl) rfl ?_
      simp only [List.take_succ_cons, List.take_zero]
      repeat (go_big_quiet_step (fail))
      refine wpQuiet_nil ?_
      intro W4 hw4
      obtain ⟨⟨W5, b4⟩, hw5⟩ := hw4
      obtain rfl : W4 = W5 := hw5
      clear x_1 x_0
      have hEn := True.intro
      have hEn2 := True.intro
      refine wpAny_ready (rs := [21]) (by kernel_rfl) (by simp) ?_
      refine AllReady.cons rfl (fun K hK => ?_) AllReady.nil
      go_simp
      refine hK _ _ ?_
      clear hK K
      have B4 := bthen B0 b4
      have kX4 := (kX0.below b4 kX0.lt).alloc (.cells #[.bool ar, .int .i64 22, .bool false, .int .i64 20] 120)
      have kC4 := (kC.below b4 kC.lt).alloc (.cells #[.bool ar, .int .i64 22, .bool false, .int .i64 20] 120)
      have kS := Blk.new W4 120 #[.bool ar, .int .i64 22, .bool false, .int .i64 20]
      have B5 := B4.alloc B4.size (.cells #[.bool ar, .int .i64 22, .bool false, .int .i64 20] 120)
      generalize World.alloc W4 _ = W6 at *
      have hF6 := hF W6 W4.heap.size 2 kS.lt (by
        intro k hk
        have hk2 : k = 0 ∨ k = 1 := by simp at hk; omega
        rcases hk2 with rfl | rfl <;> exact ⟨(kS.cell _).trans (by simp), (kS.cell _).trans (by simp)⟩)
      refine wpAny_ready (rs := [22]) (by kernel_rfl) (by simp) ?_
      refine AllReady.cons rfl (fun K hK => ?_) AllReady.nil
      go_simp
      refine hF6.mono ?_
      rintro e w7 ⟨rfl, q7⟩
      refine hK _ _ ?_
      clear hK K hF6 hF hEn hEn2
      have kX7 := kX4.below q7 kX4.lt
      have kC7 := kC4.below q7 kC4.lt
      have B7 := bthen B5 q7
      clear kX4 kX0 kS B4 B5 b4 B0
      refine wpAny_ready (rs := [23]) (by kernel_rfl) (by simp) ?_
      refine AllReady.cons rfl (fun K hK => ?_) AllReady.nil
      go_simp
      refine hK _ _ ?_
      clear hK K
      refine wpAny_done (by kernel_rfl) ?_ _
      have T7 : Touch X w w7 := Touch.of_below B7 (Nat.le_of_lt kX.lt)
      have k8 := (kX7.set 1 (.bool false)).set 0 (.int .i64 0)
      have T8 := (T7.trans (touch_one X 1 (.bool false) w7)).trans (touch_one X 0 (.int .i64 0) _)
      have z_0 := kX7.frozen 0
      have z_1 := kX7.frozen 1
      have s_0 := kX7.cell 0
      have s_1 := kX7.cell 1
      simp at s_0 s_1
      go_wp2
      go_ret
      exact ⟨by rw [HE.out]; rfl, by simpa using k8, T8⟩
end Go.Proofs.YtebkeocpojlepaaGreatDoor

/- command's craft: goes. -/
namespace Go.Proofs.YtebkeocpojlepaaGreatDoor
open Go.RowKit
set_option linter.unusedVariables false
set_option linter.unusedSimpArgs false

set_option maxRecDepth 100000 in
set_option maxHeartbeats 8000000 in
theorem goes_any (s : St) (c : Cm) (X : Nat) (w : World) (kX : Blk w X 85 (stC s)) :
    Calls Tryz.prog 36 #[.pointer (some ⟨X, 0, none⟩), cmV c] w (CraftPost X w { s with mode := c.n } (goesE s c.n)) := by
  have hW := tWay_any s.mode c.n
  have hH := tHome_any c.n
  have hN := Needs_any c.n
  have hEn := fun (W : World) (k : Blk W X 85 (stC s)) => enough_any X s (needsI c.n) W k
  obtain ⟨E, hE⟩ : ∃ E : Int, E = goesE s c.n := ⟨_, rfl⟩
  rw [← hE]
  unfold goesE at hE
  obtain ⟨m, ar, ho, la, lo, is⟩ := s
  obtain ⟨ck, cn, ca, co⟩ := c
  simp only at hE hEn hW hH hN ⊢
  generalize wayB m cn = wy at *
  generalize homeB cn = hb at *
  obtain ⟨en, hen1, hen⟩ : ∃ en : Bool, decide (needsI cn ≤ soundI is) = en ∧ (soundI is < needsI cn) = (en = false) := ⟨_, rfl, by simp⟩
  rw [hen1] at hEn
  clear hen1
  generalize needsI cn = ne at *
  generalize soundI is = so at *
  obtain ⟨z, dz, dn, hz⟩ : ∃ z : Bool, (cn == 0) = z ∧ (cn != 0) = !z ∧ (cn = 0) = (z = true) := ⟨_, rfl, rfl, by simp⟩
  cases ar
  case true =>
    cases ho
    case true =>
      have hF := fun (W : World) (g cp : Nat) (hg : g < W.heap.size) => cfirst_any [(wy, 20), (true, 22), ((!z), 21), (true, 23), (en, 24)] (by simp) g cp W hg
      have hE2 : E = whyE [(wy, 20), (true, 22), ((!z), 21), (true, 23), (en, 24)] := by
        rw [hE]; simp only [ne_eq, hz, hen]; cases wy <;> cases z <;> cases hb <;> cases en <;> simp [whyE]
      have HE := Lib.hid hE2
      clear hE hE2 hz hen
      have kX0 := kX.alloc (.cells (cmC ⟨ck, cn, ca, co⟩) 25)
      have kC := Blk.new w 25 (cmC ⟨ck, cn, ca, co⟩)
      have B0 : Below w.heap.size w (w.alloc (.cells (cmC ⟨ck, cn, ca, co⟩) 25)) := (Below.refl _ w).alloc (Nat.le_refl _) _
      go_enter Tryz.func36, Tryz.ntmps36
      go_wp2_with fail
      generalize World.alloc w _ = W0 at *
      have x_0 : ∀ n : CalmW W0.heap.size W0, n.val.cell? ⟨X, 0, none⟩ = some (.int .i64 m) := fun n => ((kX0.below n.below kX0.lt).cell 0).trans (by simp)
      have x_1 : ∀ n : CalmW W0.heap.size W0, n.val.cell? ⟨X, 1, none⟩ = some (.bool true) := fun n => ((kX0.below n.below kX0.lt).cell 1).trans (by simp)
      have x_2 : ∀ n : CalmW W0.heap.size W0, n.val.cell? ⟨X, 2, none⟩ = some (.bool true) := fun n => ((kX0.below n.below kX0.lt).cell 2).trans (by simp)
      have v_1 : ∀ n : CalmW W0.heap.size W0, n.val.cell? ⟨w.heap.size, 1, none⟩ = some (.int .i64 cn) := fun n => ((kC.below n.below kC.lt).cell 1).trans (by simp)
      have hEn2 := fun n : CalmW W0.heap.size W0 => hEn n.val (kX0.below n.below kX0.lt)
      refine wp_region_calm_head W0.heap.size 50 3 #[true, true, true, true, true, true, true, true, true, true, true, true, true, true, true, true, true, true, true, true, true, true, true, true, true, true, true, true, true, true, true, true, true, true, true, true, true, true, true, true, true, true, true, true, true, true, true, true, true, true, false, false, false] (by kernel_rfl) (by kernel_rfl) rfl ?_
      simp only [List.take_succ_cons, List.take_zero]
      repeat (go_big_quiet_step (first | (with_reducible refine calm_of (Nat.le_refl _) (hW _)) | (with_reducible refine calm_of (Nat.le_refl _) (hH _)) | (with_reducible refine calm_of (Nat.le_refl _) (hN _)) | (with_reducible refine calm_of (Nat.le_refl _) (hEn2 _))))
      refine wpQuiet_nil ?_
      intro W4 hw4
      obtain ⟨⟨W5, b4⟩, hw5⟩ := hw4
      obtain rfl : W4 = W5 := hw5
      clear x_0 x_1 x_2 v_1
      refine wpAny_ready (rs := [50]) (by kernel_rfl) (by simp) ?_
      refine AllReady.cons rfl (fun K hK => ?_) AllReady.nil
      go_simp
      refine hK _ _ ?_
      clear hK K
      have B4 := bthen B0 b4
      have kX4 := (kX0.below b4 kX0.lt).alloc (.cells #[.bool wy, .int .i64 20, .bool (true), .int .i64 22, .bool ((!z)), .int .i64 21, .bool (true), .int .i64 23, .bool en, .int .i64 24] 120)
      have kC4 := (kC.below b4 kC.lt).alloc (.cells #[.bool wy, .int .i64 20, .bool (true), .int .i64 22, .bool ((!z)), .int .i64 21, .bool (true), .int .i64 23, .bool en, .int .i64 24] 120)
      have kS := Blk.new W4 120 #[.bool wy, .int .i64 20, .bool (true), .int .i64 22, .bool ((!z)), .int .i64 21, .bool (true), .int .i64 23, .bool en, .int .i64 24]
      have B5 := B4.alloc B4.size (.cells #[.bool wy, .int .i64 20, .bool (true), .int .i64 22, .bool ((!z)), .int .i64 21, .bool (true), .int .i64 23, .bool en, .int .i64 24] 120)
      generalize World.alloc W4 _ = W6 at *
      have hF6 := hF W6 W4.heap.size 5 kS.lt (by
        intro k hk
        have hk2 : k = 0 ∨ k = 1 ∨ k = 2 ∨ k = 3 ∨ k = 4 := by simp at hk; omega
        rcases hk2 with rfl | rfl | rfl | rfl | rfl <;> exact ⟨(kS.cell _).trans (by simp), (kS.cell _).trans (by simp)⟩)
      refine wpAny_ready (rs := [51]) (by kernel_rfl) (by simp) ?_
      refine AllReady.cons rfl (fun K hK => ?_) AllReady.nil
      go_simp
      refine hF6.mono ?_
      rintro e w7 ⟨rfl, q7⟩
      refine hK _ _ ?_
      clear hK K hF6 hF hEn hEn2
      have kX7 := kX4.below q7 kX4.lt
      have kC7 := kC4.below q7 kC4.lt
      have B7 := bthen B5 q7
      clear kX4 kX0 kS B4 B5 b4 B0
      refine wpAny_ready (rs := [52]) (by kernel_rfl) (by simp) ?_
      refine AllReady.cons rfl (fun K hK => ?_) AllReady.nil
      go_simp
      refine hK _ _ ?_
      clear hK K
      refine wpAny_done (by kernel_rfl) ?_ _
      have T7 : Touch X w w7 := Touch.of_below B7 (Nat.le_of_lt kX.lt)
      have k8 := kX7.set 0 (.int .i64 cn)
      have T8 := T7.trans (touch_one X 0 (.int .i64 cn) w7)
      have z_0 := kX7.frozen 0
      have s_0 := kX7.cell 0
      have v_1 := kC7.cell 1
      simp at s_0 v_1
      go_wp2
      go_ret
      exact ⟨by rw [HE.out]; rfl, by simpa using k8, T8⟩
    case false =>
      have hF := fun (W : World) (g cp : Nat) (hg : g < W.heap.size) => cfirst_any [(wy, 20), (true, 22), ((!z), 21), ((!hb), 23), (en, 24)] (by simp) g cp W hg
      have hE2 : E = whyE [(wy, 20), (true, 22), ((!z), 21), ((!hb), 23), (en, 24)] := by
        rw [hE]; simp only [ne_eq, hz, hen]; cases wy <;> cases z <;> cases hb <;> cases en <;> simp [whyE]
      have HE := Lib.hid hE2
      clear hE hE2 hz hen
      have kX0 := kX.alloc (.cells (cmC ⟨ck, cn, ca, co⟩) 25)
      have kC := Blk.new w 25 (cmC ⟨ck, cn, ca, co⟩)
      have B0 : Below w.heap.size w (w.alloc (.cells (cmC ⟨ck, cn, ca, co⟩) 25)) := (Below.refl _ w).alloc (Nat.le_refl _) _
      go_enter Tryz.func36, Tryz.ntmps36
      go_wp2_with fail
      generalize World.alloc w _ = W0 at *
      have x_0 : ∀ n : CalmW W0.heap.size W0, n.val.cell? ⟨X, 0, none⟩ = some (.int .i64 m) := fun n => ((kX0.below n.below kX0.lt).cell 0).trans (by simp)
      have x_1 : ∀ n : CalmW W0.heap.size W0, n.val.cell? ⟨X, 1, none⟩ = some (.bool true) := fun n => ((kX0.below n.below kX0.lt).cell 1).trans (by simp)
      have x_2 : ∀ n : CalmW W0.heap.size W0, n.val.cell? ⟨X, 2, none⟩ = some (.bool false) := fun n => ((kX0.below n.below kX0.lt).cell 2).trans (by simp)
      have v_1 : ∀ n : CalmW W0.heap.size W0, n.val.cell? ⟨w.heap.size, 1, none⟩ = some (.int .i64 cn) := fun n => ((kC.below n.below kC.lt).cell 1).trans (by simp)
      have hEn2 := fun n : CalmW W0.heap.size W0 => hEn n.val (kX0.below n.below kX0.lt)
      refine wp_region_calm_head W0.heap.size 50 3 #[true, true, true, true, true, true, true, true, true, true, true, true, true, true, true, true, true, true, true, true, true, true, true, true, true, true, true, true, true, true, true, true, true, true, true, true, true, true, true, true, true, true, true, true, true, true, true, true, true, true, false, false, false] (by kernel_rfl) (by kernel_rfl) rfl ?_
      simp only [List.take_succ_cons, List.take_zero]
      repeat (go_big_quiet_step (first | (with_reducible refine calm_of (Nat.le_refl _) (hW _)) | (with_reducible refine calm_of (Nat.le_refl _) (hH _)) | (with_reducible refine calm_of (Nat.le_refl _) (hN _)) | (with_reducible refine calm_of (Nat.le_refl _) (hEn2 _))))
      refine wpQuiet_nil ?_
      intro W4 hw4
      obtain ⟨⟨W5, b4⟩, hw5⟩ := hw4
      obtain rfl : W4 = W5 := hw5
      clear x_0 x_1 x_2 v_1
      refine wpAny_ready (rs := [50]) (by kernel_rfl) (by simp) ?_
      refine AllReady.cons rfl (fun K hK => ?_) AllReady.nil
      go_simp
      refine hK _ _ ?_
      clear hK K
      have B4 := bthen B0 b4
      have kX4 := (kX0.below b4 kX0.lt).alloc (.cells #[.bool wy, .int .i64 20, .bool (true), .int .i64 22, .bool ((!z)), .int .i64 21, .bool ((!hb)), .int .i64 23, .bool en, .int .i64 24] 120)
      have kC4 := (kC.below b4 kC.lt).alloc (.cells #[.bool wy, .int .i64 20, .bool (true), .int .i64 22, .bool ((!z)), .int .i64 21, .bool ((!hb)), .int .i64 23, .bool en, .int .i64 24] 120)
      have kS := Blk.new W4 120 #[.bool wy, .int .i64 20, .bool (true), .int .i64 22, .bool ((!z)), .int .i64 21, .bool ((!hb)), .int .i64 23, .bool en, .int .i64 24]
      have B5 := B4.alloc B4.size (.cells #[.bool wy, .int .i64 20, .bool (true), .int .i64 22, .bool ((!z)), .int .i64 21, .bool ((!hb)), .int .i64 23, .bool en, .int .i64 24] 120)
      generalize World.alloc W4 _ = W6 at *
      have hF6 := hF W6 W4.heap.size 5 kS.lt (by
        intro k hk
        have hk2 : k = 0 ∨ k = 1 ∨ k = 2 ∨ k = 3 ∨ k = 4 := by simp at hk; omega
        rcases hk2 with rfl | rfl | rfl | rfl | rfl <;> exact ⟨(kS.cell _).trans (by simp), (kS.cell _).trans (by simp)⟩)
      refine wpAny_ready (rs := [51]) (by kernel_rfl) (by simp) ?_
      refine AllReady.cons rfl (fun K hK => ?_) AllReady.nil
      go_simp
      refine hF6.mono ?_
      rintro e w7 ⟨rfl, q7⟩
      refine hK _ _ ?_
      clear hK K hF6 hF hEn hEn2
      have kX7 := kX4.below q7 kX4.lt
      have kC7 := kC4.below q7 kC4.lt
      have B7 := bthen B5 q7
      clear kX4 kX0 kS B4 B5 b4 B0
      refine wpAny_ready (rs := [52]) (by kernel_rfl) (by simp) ?_
      refine AllReady.cons rfl (fun K hK => ?_) AllReady.nil
      go_simp
      refine hK _ _ ?_
      clear hK K
      refine wpAny_done (by kernel_rfl) ?_ _
      have T7 : Touch X w w7 := Touch.of_below B7 (Nat.le_of_lt kX.lt)
      have k8 := kX7.set 0 (.int .i64 cn)
      have T8 := T7.trans (touch_one X 0 (.int .i64 cn) w7)
      have z_0 := kX7.frozen 0
      have s_0 := kX7.cell 0
      have v_1 := kC7.cell 1
      simp at s_0 v_1
      go_wp2
      go_ret
      exact ⟨by rw [HE.out]; rfl, by simpa using k8, T8⟩
  case false =>
    cases ho
    case true =>
      have hF := fun (W : World) (g cp : Nat) (hg : g < W.heap.size) => cfirst_any [(wy, 20), (z, 22), (true, 21), (true, 23), (en, 24)] (by simp) g cp W hg
      have hE2 : E = whyE [(wy, 20), (z, 22), (true, 21), (true, 23), (en, 24)] := by
        rw [hE]; simp only [ne_eq, hz, hen]; cases wy <;> cases z <;> cases hb <;> cases en <;> simp [whyE]
      have HE := Lib.hid hE2
      clear hE hE2 hz hen
      have kX0 := kX.alloc (.cells (cmC ⟨ck, cn, ca, co⟩) 25)
      have kC := Blk.new w 25 (cmC ⟨ck, cn, ca, co⟩)
      have B0 : Below w.heap.size w (w.alloc (.cells (cmC ⟨ck, cn, ca, co⟩) 25)) := (Below.refl _ w).alloc (Nat.le_refl _) _
      go_enter Tryz.func36, Tryz.ntmps36
      go_wp2_with fail
      generalize World.alloc w _ = W0 at *
      have x_0 : ∀ n : CalmW W0.heap.size W0, n.val.cell? ⟨X, 0, none⟩ = some (.int .i64 m) := fun n => ((kX0.below n.below kX0.lt).cell 0).trans (by simp)
      have x_1 : ∀ n : CalmW W0.heap.size W0, n.val.cell? ⟨X, 1, none⟩ = some (.bool false) := fun n => ((kX0.below n.below kX0.lt).cell 1).trans (by simp)
      have x_2 : ∀ n : CalmW W0.heap.size W0, n.val.cell? ⟨X, 2, none⟩ = some (.bool true) := fun n => ((kX0.below n.below kX0.lt).cell 2).trans (by simp)
      have v_1 : ∀ n : CalmW W0.heap.size W0, n.val.cell? ⟨w.heap.size, 1, none⟩ = some (.int .i64 cn) := fun n => ((kC.below n.below kC.lt).cell 1).trans (by simp)
      have hEn2 := fun n : CalmW W0.heap.size W0 => hEn n.val (kX0.below n.below kX0.lt)
      refine wp_region_calm_head W0.heap.size 50 3 #[true, true, true, true, true, true, true, true, true, true, true, true, true, true, true, true, true, true, true, true, true, true, true, true, true, true, true, true, true, true, true, true, true, true, true, true, true, true, true, true, true, true, true, true, true, true, true, true, true, true, false, false, false] (by kernel_rfl) (by kernel_rfl) rfl ?_
      simp only [List.take_succ_cons, List.take_zero]
      repeat (go_big_quiet_step (first | (with_reducible refine calm_of (Nat.le_refl _) (hW _)) | (with_reducible refine calm_of (Nat.le_refl _) (hH _)) | (with_reducible refine calm_of (Nat.le_refl _) (hN _)) | (with_reducible refine calm_of (Nat.le_refl _) (hEn2 _))))
      refine wpQuiet_nil ?_
      intro W4 hw4
      obtain ⟨⟨W5, b4⟩, hw5⟩ := hw4
      obtain rfl : W4 = W5 := hw5
      clear x_0 x_1 x_2 v_1
      refine wpAny_ready (rs := [50]) (by kernel_rfl) (by simp) ?_
      refine AllReady.cons rfl (fun K hK => ?_) AllReady.nil
      go_simp
      refine hK _ _ ?_
      clear hK K
      have B4 := bthen B0 b4
      have kX4 := (kX0.below b4 kX0.lt).alloc (.cells #[.bool wy, .int .i64 20, .bool (z), .int .i64 22, .bool (true), .int .i64 21, .bool (true), .int .i64 23, .bool en, .int .i64 24] 120)
      have kC4 := (kC.below b4 kC.lt).alloc (.cells #[.bool wy, .int .i64 20, .bool (z), .int .i64 22, .bool (true), .int .i64 21, .bool (true), .int .i64 23, .bool en, .int .i64 24] 120)
      have kS := Blk.new W4 120 #[.bool wy, .int .i64 20, .bool (z), .int .i64 22, .bool (true), .int .i64 21, .bool (true), .int .i64 23, .bool en, .int .i64 24]
      have B5 := B4.alloc B4.size (.cells #[.bool wy, .int .i64 20, .bool (z), .int .i64 22, .bool (true), .int .i64 21, .bool (true), .int .i64 23, .bool en, .int .i64 24] 120)
      generalize World.alloc W4 _ = W6 at *
      have hF6 := hF W6 W4.heap.size 5 kS.lt (by
        intro k hk
        have hk2 : k = 0 ∨ k = 1 ∨ k = 2 ∨ k = 3 ∨ k = 4 := by simp at hk; omega
        rcases hk2 with rfl | rfl | rfl | rfl | rfl <;> exact ⟨(kS.cell _).trans (by simp), (kS.cell _).trans (by simp)⟩)
      refine wpAny_ready (rs := [51]) (by kernel_rfl) (by simp) ?_
      refine AllReady.cons rfl (fun K hK => ?_) AllReady.nil
      go_simp
      refine hF6.mono ?_
      rintro e w7 ⟨rfl, q7⟩
      refine hK _ _ ?_
      clear hK K hF6 hF hEn hEn2
      have kX7 := kX4.below q7 kX4.lt
      have kC7 := kC4.below q7 kC4.lt
      have B7 := bthen B5 q7
      clear kX4 kX0 kS B4 B5 b4 B0
      refine wpAny_ready (rs := [52]) (by kernel_rfl) (by simp) ?_
      refine AllReady.cons rfl (fun K hK => ?_) AllReady.nil
      go_simp
      refine hK _ _ ?_
      clear hK K
      refine wpAny_done (by kernel_rfl) ?_ _
      have T7 : Touch X w w7 := Touch.of_below B7 (Nat.le_of_lt kX.lt)
      have k8 := kX7.set 0 (.int .i64 cn)
      have T8 := T7.trans (touch_one X 0 (.int .i64 cn) w7)
      have z_0 := kX7.frozen 0
      have s_0 := kX7.cell 0
      have v_1 := kC7.cell 1
      simp at s_0 v_1
      go_wp2
      go_ret
      exact ⟨by rw [HE.out]; rfl, by simpa using k8, T8⟩
    case false =>
      have hF := fun (W : World) (g cp : Nat) (hg : g < W.heap.size) => cfirst_any [(wy, 20), (z, 22), (true, 21), ((!hb), 23), (en, 24)] (by simp) g cp W hg
      have hE2 : E = whyE [(wy, 20), (z, 22), (true, 21), ((!hb), 23), (en, 24)] := by
        rw [hE]; simp only [ne_eq, hz, hen]; cases wy <;> cases z <;> cases hb <;> cases en <;> simp [whyE]
      have HE := Lib.hid hE2
      clear hE hE2 hz hen
      have kX0 := kX.alloc (.cells (cmC ⟨ck, cn, ca, co⟩) 25)
      have kC := Blk.new w 25 (cmC ⟨ck, cn, ca, co⟩)
      have B0 : Below w.heap.size w (w.alloc (.cells (cmC ⟨ck, cn, ca, co⟩) 25)) := (Below.refl _ w).alloc (Nat.le_refl _) _
      go_enter Tryz.func36, Tryz.ntmps36
      go_wp2_with fail
      generalize World.alloc w _ = W0 at *
      have x_0 : ∀ n : CalmW W0.heap.size W0, n.val.cell? ⟨X, 0, none⟩ = some (.int .i64 m) := fun n => ((kX0.below n.below kX0.lt).cell 0).trans (by simp)
      have x_1 : ∀ n : CalmW W0.heap.size W0, n.val.cell? ⟨X, 1, none⟩ = some (.bool false) := fun n => ((kX0.below n.below kX0.lt).cell 1).trans (by simp)
      have x_2 : ∀ n : CalmW W0.heap.size W0, n.val.cell? ⟨X, 2, none⟩ = some (.bool false) := fun n => ((kX0.below n.below kX0.lt).cell 2).trans (by simp)
      have v_1 : ∀ n : CalmW W0.heap.size W0, n.val.cell? ⟨w.heap.size, 1, none⟩ = some (.int .i64 cn) := fun n => ((kC.below n.below kC.lt).cell 1).trans (by simp)
      have hEn2 := fun n : CalmW W0.heap.size W0 => hEn n.val (kX0.below n.below kX0.lt)
      refine wp_region_calm_head W0.heap.size 50 3 #[true, true, true, true, true, true, true, true, true, true, true, true, true, true, true, true, true, true, true, true, true, true, true, true, true, true, true, true, true, true, true, true, true, true, true, true, true, true, true, true, true, true, true, true, true, true, true, true, true, true, false, false, false] (by kernel_rfl) (by kernel_rfl) rfl ?_
      simp only [List.take_succ_cons, List.take_zero]
      repeat (go_big_quiet_step (first | (with_reducible refine calm_of (Nat.le_refl _) (hW _)) | (with_reducible refine calm_of (Nat.le_refl _) (hH _)) | (with_reducible refine calm_of (Nat.le_refl _) (hN _)) | (with_reducible refine calm_of (Nat.le_refl _) (hEn2 _))))
      refine wpQuiet_nil ?_
      intro W4 hw4
      obtain ⟨⟨W5, b4⟩, hw5⟩ := hw4
      obtain rfl : W4 = W5 := hw5
      clear x_0 x_1 x_2 v_1
      refine wpAny_ready (rs := [50]) (by kernel_rfl) (by simp) ?_
      refine AllReady.cons rfl (fun K hK => ?_) AllReady.nil
      go_simp
      refine hK _ _ ?_
      clear hK K
      have B4 := bthen B0 b4
      have kX4 := (kX0.below b4 kX0.lt).alloc (.cells #[.bool wy, .int .i64 20, .bool (z), .int .i64 22, .bool (true), .int .i64 21, .bool ((!hb)), .int .i64 23, .bool en, .int .i64 24] 120)
      have kC4 := (kC.below b4 kC.lt).alloc (.cells #[.bool wy, .int .i64 20, .bool (z), .int .i64 22, .bool (true), .int .i64 21, .bool ((!hb)), .int .i64 23, .bool en, .int .i64 24] 120)
      have kS := Blk.new W4 120 #[.bool wy, .int .i64 20, .bool (z), .int .i64 22, .bool (true), .int .i64 21, .bool ((!hb)), .int .i64 23, .bool en, .int .i64 24]
      have B5 := B4.alloc B4.size (.cells #[.bool wy, .int .i64 20, .bool (z), .int .i64 22, .bool (true), .int .i64 21, .bool ((!hb)), .int .i64 23, .bool en, .int .i64 24] 120)
      generalize World.alloc W4 _ = W6 at *
      have hF6 := hF W6 W4.heap.size 5 kS.lt (by
        intro k hk
        have hk2 : k = 0 ∨ k = 1 ∨ k = 2 ∨ k = 3 ∨ k = 4 := by simp at hk; omega
        rcases hk2 with rfl | rfl | rfl | rfl | rfl <;> exact ⟨(kS.cell _).trans (by simp), (kS.cell _).trans (by simp)⟩)
      refine wpAny_ready (rs := [51]) (by kernel_rfl) (by simp) ?_
      refine AllReady.cons rfl (fun K hK => ?_) AllReady.nil
      go_simp
      refine hF6.mono ?_
      rintro e w7 ⟨rfl, q7⟩
      refine hK _ _ ?_
      clear hK K hF6 hF hEn hEn2
      have kX7 := kX4.below q7 kX4.lt
      have kC7 := kC4.below q7 kC4.lt
      have B7 := bthen B5 q7
      clear kX4 kX0 kS B4 B5 b4 B0
      refine wpAny_ready (rs := [52]) (by kernel_rfl) (by simp) ?_
      refine AllReady.cons rfl (fun K hK => ?_) AllReady.nil
      go_simp
      refine hK _ _ ?_
      clear hK K
      refine wpAny_done (by kernel_rfl) ?_ _
      have T7 : Touch X w w7 := Touch.of_below B7 (Nat.le_of_lt kX.lt)
      have k8 := kX7.set 0 (.int .i64 cn)
      have T8 := T7.trans (touch_one X 0 (.int .i64 cn) w7)
      have z_0 := kX7.frozen 0
      have s_0 := kX7.cell 0
      have v_1 := kC7.cell 1
      simp at s_0 v_1
      go_wp2
      go_ret
      exact ⟨by rw [HE.out]; rfl, by simpa using k8, T8⟩
end Go.Proofs.YtebkeocpojlepaaGreatDoor

/- command's craft: home, sensor. -/
namespace Go.Proofs.YtebkeocpojlepaaGreatDoor
open Go.RowKit
set_option linter.unusedVariables false
set_option linter.unusedSimpArgs false

def homeK (s : St) (c : Cm) : St := if fixE c.lat L90 ≠ 0 then { s with lat := fixV c.lat L90 } else { s with lat := fixV c.lat L90, home := true, lon := fixV c.lon L180 }
def homeE (c : Cm) : Int := if fixE c.lat L90 ≠ 0 then fixE c.lat L90 else fixE c.lon L180

set_option maxRecDepth 100000 in
set_option maxHeartbeats 4000000 in
theorem home_any (s : St) (c : Cm) (hc : c.ok) (X : Nat) (w : World) (kX : Blk w X 85 (stC s)) :
    Calls Tryz.prog 39 #[.pointer (some ⟨X, 0, none⟩), cmV c] w (CraftPost X w (homeK s c) (homeE c)) := by
  have hA := Fix_any c.lat hc.ha 90 L90 limA
  have hB := Fix_any c.lon hc.ho 180 L180 limB
  have hK : homeK s c = if fixE c.lat L90 ≠ 0 then { s with lat := fixV c.lat L90 } else { s with lat := fixV c.lat L90, home := true, lon := fixV c.lon L180 } := rfl
  have hE : homeE c = if fixE c.lat L90 ≠ 0 then fixE c.lat L90 else fixE c.lon L180 := rfl
  generalize homeK s c = K at *
  generalize homeE c = E at *
  generalize fixE c.lat L90 = ea at *
  generalize fixE c.lon L180 = eb at *
  generalize fixV c.lat L90 = va at *
  generalize fixV c.lon L180 = vb at *
  obtain ⟨m, ar, ho, la, lo, is⟩ := s
  obtain ⟨ck, cn, ca, co⟩ := c
  simp only at hA hB hK
  clear hc
  have kX0 := kX.alloc (.cells (cmC ⟨ck, cn, ca, co⟩) 25)
  have kC := Blk.new w 25 (cmC ⟨ck, cn, ca, co⟩)
  have B0 : Below w.heap.size w (w.alloc (.cells (cmC ⟨ck, cn, ca, co⟩) 25)) := (Below.refl _ w).alloc (Nat.le_refl _) _
  by_cases h1 : ea = 0
  · rw [if_neg (by simp [h1])] at hK hE
    subst h1
    subst hK hE
    go_enter Tryz.func39, Tryz.ntmps39
    go_wp2_with fail
    generalize World.alloc w _ = W0 at *
    have r_0 := kC.cell 0
    have r_1 := kC.cell 1
    have r_2 := kC.cell 2
    have r_3 := kC.cell 3
    simp at r_0 r_1 r_2 r_3
    have hXne : X ≠ w.heap.size := by have := kX.lt; omega
    have hXne2 : w.heap.size ≠ X := hXne.symm
    go_wp2_with (first | ((with_reducible refine (hA _).mono ?_); rintro e w1 ⟨rfl, q1⟩; have kX1 := kX0.below q1 kX0.lt; have kC1 := kC.below q1 kC.lt; have B1 := bthen B0 q1; have z_3 := kX1.frozen 3; have s_3 := kX1.cell 3; simp at s_3; clear kX0 kC B0 q1; have kX2 := (kX1.set 3 (.int .i64 va)).set 2 (.bool true); have z_2 := kX1.frozen 2; have s_2 := kX1.cell 2; simp at s_2; have t_3 := kC1.cell 3; simp at t_3) | ((with_reducible refine (hB _).mono ?_); rintro e w2 ⟨rfl, q2⟩; have kX3 := kX2.below q2 kX2.lt; have z_4 := kX3.frozen 4; have s_4 := kX3.cell 4; simp at s_4))
    go_ret
    have k9 := kX3.set 4 (.int .i64 vb)
    exact ⟨rfl, by simpa using k9, (((Touch.of_below B1 (Nat.le_of_lt kX.lt)).trans (touch_one X 3 _ _)).trans (touch_one X 2 _ _)).trans ((Touch.of_below q2 (Nat.le_of_lt kX2.lt)).trans (touch_one X 4 _ _))⟩
  · rw [if_pos h1] at hK hE
    subst hK hE
    go_enter Tryz.func39, Tryz.ntmps39
    go_wp2_with fail
    generalize World.alloc w _ = W0 at *
    have r_0 := kC.cell 0
    have r_1 := kC.cell 1
    have r_2 := kC.cell 2
    have r_3 := kC.cell 3
    simp at r_0 r_1 r_2 r_3
    have h2 : (E != 0) = true := by simpa using h1
    go_wp2_with ((with_reducible refine (hA _).mono ?_); rintro e w1 ⟨rfl, q1⟩; have kX1 := kX0.below q1 kX0.lt; have B1 := bthen B0 q1; have z_3 := kX1.frozen 3; have s_3 := kX1.cell 3; simp at s_3; clear kX0 kC B0 q1)
    go_ret
    have k9 := kX1.set 3 (.int .i64 va)
    exact ⟨rfl, by simpa using k9, (Touch.of_below B1 (Nat.le_of_lt kX.lt)).trans (touch_one X 3 _ _)⟩
end Go.Proofs.YtebkeocpojlepaaGreatDoor

/- command's craft: sensor. -/
namespace Go.Proofs.YtebkeocpojlepaaGreatDoor
open Go.RowKit
set_option linter.unusedVariables false
set_option linter.unusedSimpArgs false

def sensorE (s : St) (c : Cm) : Int := if c.n < 0 ∨ 3 < c.n then 1 else if c.kind = 5 ∧ hasI s.iso c.n = false ∧ soundI s.iso - 1 < needsI s.mode then 24 else 0
def sensorK (s : St) (c : Cm) : St := if sensorE s c ≠ 0 then s else if c.kind = 5 then { s with iso := setI s.iso c.n } else { s with iso := offI s.iso c.n }

set_option maxRecDepth 100000 in
set_option maxHeartbeats 4000000 in
theorem sensor6 (s : St) (h16 : 0 ≤ s.iso ∧ s.iso < 16) (c : Cm) (hk : c.kind = 6) (X : Nat) (w : World) (kX : Blk w X 85 (stC s)) :
    Calls Tryz.prog 40 #[.pointer (some ⟨X, 0, none⟩), cmV c] w (CraftPost X w (sensorK s c) (sensorE s c)) := by
  have hE : sensorE s c = if c.n < 0 ∨ 3 < c.n then 1 else 0 := by unfold sensorE; rw [hk]; simp
  have hK : sensorK s c = if (if c.n < 0 ∨ 3 < c.n then 1 else 0 : Int) ≠ 0 then s else { s with iso := offI s.iso c.n } := by unfold sensorK; rw [hE, hk]; simp
  rw [hE, hK]
  clear hE hK
  by_cases hn : c.n < 0 ∨ 3 < c.n
  · rw [if_pos hn, if_pos (by decide)]
    obtain ⟨m, ar, ho, la, lo, is⟩ := s
    obtain ⟨ck, cn, ca, co⟩ := c
    simp only at hk hn h16 ⊢
    subst hk
    have kX0 := kX.alloc (.cells (cmC ⟨6, cn, ca, co⟩) 25)
    have T : Touch X w (w.alloc (.cells (cmC ⟨6, cn, ca, co⟩) 25)) := Touch.of_below ((Below.refl _ w).alloc (Nat.le_refl _) _) (Nat.le_of_lt kX.lt)
    rcases hn with hn | hn
    · go_enter Tryz.func40, Tryz.ntmps40
      go_wp2
      go_ret
      exact ⟨rfl, kX0, T⟩
    · have h2 : ¬ cn < 0 := by omega
      have h3 : 4 ≤ cn := by omega
      go_enter Tryz.func40, Tryz.ntmps40
      go_wp2
      go_ret
      exact ⟨rfl, kX0, T⟩
  · rw [if_neg hn, if_neg (by simp)]
    have hI := iso_ops s.iso c.n h16.1 h16.2 (by omega) (by omega)
    obtain ⟨m, ar, ho, la, lo, is⟩ := s
    obtain ⟨ck, cn, ca, co⟩ := c
    simp only at hk hn h16 hI ⊢
    subst hk
    obtain rfl | rfl | rfl | rfl : cn = 0 ∨ cn = 1 ∨ cn = 2 ∨ cn = 3 := by omega
    ·
      obtain ⟨A, hA, p1, w1⟩ : ∃ A : Int, A = (if hasI is 0 then 1 else 0) ∧ bits .and .i64 is 1 = A ∧ IntKind.i64.wrap (is - A) = is - A := ⟨_, rfl, hI.1, IntWalk.i64_in _ (by split <;> omega)⟩
      have hOff : offI is 0 = is - A := by unfold offI; rw [hA]; split <;> simp [bitI]
      rw [hOff]
      clear hA hI hOff
      have hXne : X ≠ w.heap.size := by have := kX.lt; omega
      have hXne2 : w.heap.size ≠ X := hXne.symm
      go_enter Tryz.func40, Tryz.ntmps40
      have u_5 := kX.cell 5
      have f_5 := kX.frozen 5
      simp at u_5
      have hXl := kX.lt
      go_wp2
      go_ret
      exact ⟨rfl, by simpa using (kX.set 5 (.int .i64 (is - A))).alloc (.cells (cmC ⟨6, 0, ca, co⟩) 25), (touch_one X 5 _ w).trans (Touch.of_below ((Below.refl _ _).alloc (Nat.le_refl _) _) (by simp; omega))⟩
    ·
      obtain ⟨A, hA, p1, w1⟩ : ∃ A : Int, A = (if hasI is 1 then 2 else 0) ∧ bits .and .i64 is 2 = A ∧ IntKind.i64.wrap (is - A) = is - A := ⟨_, rfl, hI.1, IntWalk.i64_in _ (by split <;> omega)⟩
      have hOff : offI is 1 = is - A := by unfold offI; rw [hA]; split <;> simp [bitI]
      rw [hOff]
      clear hA hI hOff
      have hXne : X ≠ w.heap.size := by have := kX.lt; omega
      have hXne2 : w.heap.size ≠ X := hXne.symm
      go_enter Tryz.func40, Tryz.ntmps40
      have u_5 := kX.cell 5
      have f_5 := kX.frozen 5
      simp at u_5
      have hXl := kX.lt
      go_wp2
      go_ret
      exact ⟨rfl, by simpa using (kX.set 5 (.int .i64 (is - A))).alloc (.cells (cmC ⟨6, 1, ca, co⟩) 25), (touch_one X 5 _ w).trans (Touch.of_below ((Below.refl _ _).alloc (Nat.le_refl _) _) (by simp; omega))⟩
    ·
      obtain ⟨A, hA, p1, w1⟩ : ∃ A : Int, A = (if hasI is 2 then 4 else 0) ∧ bits .and .i64 is 4 = A ∧ IntKind.i64.wrap (is - A) = is - A := ⟨_, rfl, hI.1, IntWalk.i64_in _ (by split <;> omega)⟩
      have hOff : offI is 2 = is - A := by unfold offI; rw [hA]; split <;> simp [bitI]
      rw [hOff]
      clear hA hI hOff
      have hXne : X ≠ w.heap.size := by have := kX.lt; omega
      have hXne2 : w.heap.size ≠ X := hXne.symm
      go_enter Tryz.func40, Tryz.ntmps40
      have u_5 := kX.cell 5
      have f_5 := kX.frozen 5
      simp at u_5
      have hXl := kX.lt
      go_wp2
      go_ret
      exact ⟨rfl, by simpa using (kX.set 5 (.int .i64 (is - A))).alloc (.cells (cmC ⟨6, 2, ca, co⟩) 25), (touch_one X 5 _ w).trans (Touch.of_below ((Below.refl _ _).alloc (Nat.le_refl _) _) (by simp; omega))⟩
    ·
      obtain ⟨A, hA, p1, w1⟩ : ∃ A : Int, A = (if hasI is 3 then 8 else 0) ∧ bits .and .i64 is 8 = A ∧ IntKind.i64.wrap (is - A) = is - A := ⟨_, rfl, hI.1, IntWalk.i64_in _ (by split <;> omega)⟩
      have hOff : offI is 3 = is - A := by unfold offI; rw [hA]; split <;> simp [bitI]
      rw [hOff]
      clear hA hI hOff
      have hXne : X ≠ w.heap.size := by have := kX.lt; omega
      have hXne2 : w.heap.size ≠ X := hXne.symm
      go_enter Tryz.func40, Tryz.ntmps40
      have u_5 := kX.cell 5
      have f_5 := kX.frozen 5
      simp at u_5
      have hXl := kX.lt
      go_wp2
      go_ret
      exact ⟨rfl, by simpa using (kX.set 5 (.int .i64 (is - A))).alloc (.cells (cmC ⟨6, 3, ca, co⟩) 25), (touch_one X 5 _ w).trans (Touch.of_below ((Below.refl _ _).alloc (Nat.le_refl _) _) (by simp; omega))⟩

set_option maxRecDepth 100000 in
set_option maxHeartbeats 4000000 in
theorem sensor5 (s : St) (h16 : 0 ≤ s.iso ∧ s.iso < 16) (c : Cm) (hk : c.kind = 5) (X : Nat) (w : World) (kX : Blk w X 85 (stC s)) :
    Calls Tryz.prog 40 #[.pointer (some ⟨X, 0, none⟩), cmV c] w (CraftPost X w (sensorK s c) (sensorE s c)) := by
  have hE : sensorE s c = if c.n < 0 ∨ 3 < c.n then 1 else if hasI s.iso c.n = false ∧ soundI s.iso - 1 < needsI s.mode then 24 else 0 := by unfold sensorE; rw [hk]; simp
  have hK : sensorK s c = if (if c.n < 0 ∨ 3 < c.n then 1 else if hasI s.iso c.n = false ∧ soundI s.iso - 1 < needsI s.mode then 24 else 0 : Int) ≠ 0 then s else { s with iso := setI s.iso c.n } := by unfold sensorK; rw [hE, hk]; simp
  rw [hE, hK]
  clear hE hK
  have hN := Needs_any s.mode
  have hEn := fun (W : World) (k : Blk W X 85 (stC s)) => enough_any X s (needsI s.mode + 1) W k
  have hne := needs_le s.mode
  have hso := sound_le s.iso
  by_cases hn : c.n < 0 ∨ 3 < c.n
  · rw [if_pos hn, if_pos (by decide)]
    obtain ⟨m, ar, ho, la, lo, is⟩ := s
    obtain ⟨ck, cn, ca, co⟩ := c
    simp only at hk hn h16 ⊢
    subst hk
    have kX0 := kX.alloc (.cells (cmC ⟨5, cn, ca, co⟩) 25)
    have T : Touch X w (w.alloc (.cells (cmC ⟨5, cn, ca, co⟩) 25)) := Touch.of_below ((Below.refl _ w).alloc (Nat.le_refl _) _) (Nat.le_of_lt kX.lt)
    rcases hn with hn | hn
    · go_enter Tryz.func40, Tryz.ntmps40
      go_wp2
      go_ret
      exact ⟨rfl, kX0, T⟩
    · have h2 : ¬ cn < 0 := by omega
      have h3 : 4 ≤ cn := by omega
      go_enter Tryz.func40, Tryz.ntmps40
      go_wp2
      go_ret
      exact ⟨rfl, kX0, T⟩
  · rw [if_neg hn]
    have hI := iso_ops s.iso c.n h16.1 h16.2 (by omega) (by omega)
    obtain ⟨m, ar, ho, la, lo, is⟩ := s
    obtain ⟨ck, cn, ca, co⟩ := c
    simp only at hk hn h16 hI hN hEn hne hso ⊢
    subst hk
    generalize soundI is = so at *
    generalize needsI m = ne at *
    have wne : IntKind.i64.wrap (ne + 1) = ne + 1 := IntWalk.i64_in _ (by omega)
    obtain rfl | rfl | rfl | rfl : cn = 0 ∨ cn = 1 ∨ cn = 2 ∨ cn = 3 := by omega
    ·
      have p1 : bits .and .i64 is 1 = (if hasI is 0 then 1 else 0) := hI.1
      have p2 : bits .or .i64 is 1 = setI is 0 := hI.2.1
      clear hI
      have hXne : X ≠ w.heap.size := by have := kX.lt; omega
      have hXne2 : w.heap.size ≠ X := hXne.symm
      have u_5 := kX.cell 5
      have u_0 := kX.cell 0
      have f_5 := kX.frozen 5
      simp at u_5 u_0
      have hXl := kX.lt
      cases hh : hasI is 0
      case true =>
        rw [hh] at p1
        simp only [if_true] at p1
        rw [if_neg (show ¬ ((true : Bool) = false ∧ so - 1 < ne) by simp), if_neg (by simp)]
        clear hEn hN
        generalize setI is 0 = SI at *
        go_enter Tryz.func40, Tryz.ntmps40
        go_wp2
        go_ret
        exact ⟨rfl, by simpa using (kX.set 5 (.int .i64 SI)).alloc (.cells (cmC ⟨5, 0, ca, co⟩) 25), (touch_one X 5 _ w).trans (Touch.of_below ((Below.refl _ _).alloc (Nat.le_refl _) _) (by simp; omega))⟩
      case false =>
        rw [hh] at p1
        simp only [Bool.false_eq_true, if_false] at p1
        generalize setI is 0 = SI at *
        have kX0 := kX.alloc (.cells (cmC ⟨5, 0, ca, co⟩) 25)
        have kC := Blk.new w 25 (cmC ⟨5, 0, ca, co⟩)
        have B0 : Below w.heap.size w (w.alloc (.cells (cmC ⟨5, 0, ca, co⟩) 25)) := (Below.refl _ w).alloc (Nat.le_refl _) _
        by_cases hlt : so - 1 < ne
        · rw [if_pos (show (false : Bool) = false ∧ so - 1 < ne from ⟨rfl, hlt⟩), if_pos (by decide)]
          rw [show decide (ne + 1 ≤ so) = false by simp; omega] at hEn
          go_enter Tryz.func40, Tryz.ntmps40
          go_wp2_with (first | ((with_reducible refine (hN _).mono ?_); rintro e w1 ⟨rfl, q1⟩; have kX1 := kX0.below q1 kX0.lt; have B1 := bthen B0 q1; have hEn1 := hEn _ kX1) | ((with_reducible refine hEn1.mono ?_); rintro e w2 ⟨rfl, q2⟩))
          go_ret
          exact ⟨rfl, kX1.below q2 kX1.lt, Touch.of_below (bthen B1 q2) (Nat.le_of_lt hXl)⟩
        · rw [if_neg (show ¬ ((false : Bool) = false ∧ so - 1 < ne) from fun h => hlt h.2), if_neg (by simp)]
          rw [show decide (ne + 1 ≤ so) = true by simp; omega] at hEn
          go_enter Tryz.func40, Tryz.ntmps40
          go_wp2_with (first | ((with_reducible refine (hN _).mono ?_); rintro e w1 ⟨rfl, q1⟩; have kX1 := kX0.below q1 kX0.lt; have kC1 := kC.below q1 kC.lt; have B1 := bthen B0 q1; have hEn1 := hEn _ kX1) | ((with_reducible refine hEn1.mono ?_); rintro e w2 ⟨rfl, q2⟩; have kX2 := kX1.below q2 kX1.lt; have kC2 := kC1.below q2 kC1.lt; have B2 := bthen B1 q2; have z_5 := kX2.frozen 5; have s_5 := kX2.cell 5; have t_0 := kC2.cell 0; simp at s_5 t_0))
          go_ret
          exact ⟨rfl, by simpa using kX2.set 5 (.int .i64 SI), (Touch.of_below B2 (Nat.le_of_lt hXl)).trans (touch_one X 5 _ _)⟩
    ·
      have p1 : bits .and .i64 is 2 = (if hasI is 1 then 2 else 0) := hI.1
      have p2 : bits .or .i64 is 2 = setI is 1 := hI.2.1
      clear hI
      have hXne : X ≠ w.heap.size := by have := kX.lt; omega
      have hXne2 : w.heap.size ≠ X := hXne.symm
      have u_5 := kX.cell 5
      have u_0 := kX.cell 0
      have f_5 := kX.frozen 5
      simp at u_5 u_0
      have hXl := kX.lt
      cases hh : hasI is 1
      case true =>
        rw [hh] at p1
        simp only [if_true] at p1
        rw [if_neg (show ¬ ((true : Bool) = false ∧ so - 1 < ne) by simp), if_neg (by simp)]
        clear hEn hN
        generalize setI is 1 = SI at *
        go_enter Tryz.func40, Tryz.ntmps40
        go_wp2
        go_ret
        exact ⟨rfl, by simpa using (kX.set 5 (.int .i64 SI)).alloc (.cells (cmC ⟨5, 1, ca, co⟩) 25), (touch_one X 5 _ w).trans (Touch.of_below ((Below.refl _ _).alloc (Nat.le_refl _) _) (by simp; omega))⟩
      case false =>
        rw [hh] at p1
        simp only [Bool.false_eq_true, if_false] at p1
        generalize setI is 1 = SI at *
        have kX0 := kX.alloc (.cells (cmC ⟨5, 1, ca, co⟩) 25)
        have kC := Blk.new w 25 (cmC ⟨5, 1, ca, co⟩)
        have B0 : Below w.heap.size w (w.alloc (.cells (cmC ⟨5, 1, ca, co⟩) 25)) := (Below.refl _ w).alloc (Nat.le_refl _) _
        by_cases hlt : so - 1 < ne
        · rw [if_pos (show (false : Bool) = false ∧ so - 1 < ne from ⟨rfl, hlt⟩), if_pos (by decide)]
          rw [show decide (ne + 1 ≤ so) = false by simp; omega] at hEn
          go_enter Tryz.func40, Tryz.ntmps40
          go_wp2_with (first | ((with_reducible refine (hN _).mono ?_); rintro e w1 ⟨rfl, q1⟩; have kX1 := kX0.below q1 kX0.lt; have B1 := bthen B0 q1; have hEn1 := hEn _ kX1) | ((with_reducible refine hEn1.mono ?_); rintro e w2 ⟨rfl, q2⟩))
          go_ret
          exact ⟨rfl, kX1.below q2 kX1.lt, Touch.of_below (bthen B1 q2) (Nat.le_of_lt hXl)⟩
        · rw [if_neg (show ¬ ((false : Bool) = false ∧ so - 1 < ne) from fun h => hlt h.2), if_neg (by simp)]
          rw [show decide (ne + 1 ≤ so) = true by simp; omega] at hEn
          go_enter Tryz.func40, Tryz.ntmps40
          go_wp2_with (first | ((with_reducible refine (hN _).mono ?_); rintro e w1 ⟨rfl, q1⟩; have kX1 := kX0.below q1 kX0.lt; have kC1 := kC.below q1 kC.lt; have B1 := bthen B0 q1; have hEn1 := hEn _ kX1) | ((with_reducible refine hEn1.mono ?_); rintro e w2 ⟨rfl, q2⟩; have kX2 := kX1.below q2 kX1.lt; have kC2 := kC1.below q2 kC1.lt; have B2 := bthen B1 q2; have z_5 := kX2.frozen 5; have s_5 := kX2.cell 5; have t_0 := kC2.cell 0; simp at s_5 t_0))
          go_ret
          exact ⟨rfl, by simpa using kX2.set 5 (.int .i64 SI), (Touch.of_below B2 (Nat.le_of_lt hXl)).trans (touch_one X 5 _ _)⟩
    ·
      have p1 : bits .and .i64 is 4 = (if hasI is 2 then 4 else 0) := hI.1
      have p2 : bits .or .i64 is 4 = setI is 2 := hI.2.1
      clear hI
      have hXne : X ≠ w.heap.size := by have := kX.lt; omega
      have hXne2 : w.heap.size ≠ X := hXne.symm
      have u_5 := kX.cell 5
      have u_0 := kX.cell 0
      have f_5 := kX.frozen 5
      simp at u_5 u_0
      have hXl := kX.lt
      cases hh : hasI is 2
      case true =>
        rw [hh] at p1
        simp only [if_true] at p1
        rw [if_neg (show ¬ ((true : Bool) = false ∧ so - 1 < ne) by simp), if_neg (by simp)]
        clear hEn hN
        generalize setI is 2 = SI at *
        go_enter Tryz.func40, Tryz.ntmps40
        go_wp2
        go_ret
        exact ⟨rfl, by simpa using (kX.set 5 (.int .i64 SI)).alloc (.cells (cmC ⟨5, 2, ca, co⟩) 25), (touch_one X 5 _ w).trans (Touch.of_below ((Below.refl _ _).alloc (Nat.le_refl _) _) (by simp; omega))⟩
      case false =>
        rw [hh] at p1
        simp only [Bool.false_eq_true, if_false] at p1
        generalize setI is 2 = SI at *
        have kX0 := kX.alloc (.cells (cmC ⟨5, 2, ca, co⟩) 25)
        have kC := Blk.new w 25 (cmC ⟨5, 2, ca, co⟩)
        have B0 : Below w.heap.size w (w.alloc (.cells (cmC ⟨5, 2, ca, co⟩) 25)) := (Below.refl _ w).alloc (Nat.le_refl _) _
        by_cases hlt : so - 1 < ne
        · rw [if_pos (show (false : Bool) = false ∧ so - 1 < ne from ⟨rfl, hlt⟩), if_pos (by decide)]
          rw [show decide (ne + 1 ≤ so) = false by simp; omega] at hEn
          go_enter Tryz.func40, Tryz.ntmps40
          go_wp2_with (first | ((with_reducible refine (hN _).mono ?_); rintro e w1 ⟨rfl, q1⟩; have kX1 := kX0.below q1 kX0.lt; have B1 := bthen B0 q1; have hEn1 := hEn _ kX1) | ((with_reducible refine hEn1.mono ?_); rintro e w2 ⟨rfl, q2⟩))
          go_ret
          exact ⟨rfl, kX1.below q2 kX1.lt, Touch.of_below (bthen B1 q2) (Nat.le_of_lt hXl)⟩
        · rw [if_neg (show ¬ ((false : Bool) = false ∧ so - 1 < ne) from fun h => hlt h.2), if_neg (by simp)]
          rw [show decide (ne + 1 ≤ so) = true by simp; omega] at hEn
          go_enter Tryz.func40, Tryz.ntmps40
          go_wp2_with (first | ((with_reducible refine (hN _).mono ?_); rintro e w1 ⟨rfl, q1⟩; have kX1 := kX0.below q1 kX0.lt; have kC1 := kC.below q1 kC.lt; have B1 := bthen B0 q1; have hEn1 := hEn _ kX1) | ((with_reducible refine hEn1.mono ?_); rintro e w2 ⟨rfl, q2⟩; have kX2 := kX1.below q2 kX1.lt; have kC2 := kC1.below q2 kC1.lt; have B2 := bthen B1 q2; have z_5 := kX2.frozen 5; have s_5 := kX2.cell 5; have t_0 := kC2.cell 0; simp at s_5 t_0))
          go_ret
          exact ⟨rfl, by simpa using kX2.set 5 (.int .i64 SI), (Touch.of_below B2 (Nat.le_of_lt hXl)).trans (touch_one X 5 _ _)⟩
    ·
      have p1 : bits .and .i64 is 8 = (if hasI is 3 then 8 else 0) := hI.1
      have p2 : bits .or .i64 is 8 = setI is 3 := hI.2.1
      clear hI
      have hXne : X ≠ w.heap.size := by have := kX.lt; omega
      have hXne2 : w.heap.size ≠ X := hXne.symm
      have u_5 := kX.cell 5
      have u_0 := kX.cell 0
      have f_5 := kX.frozen 5
      simp at u_5 u_0
      have hXl := kX.lt
      cases hh : hasI is 3
      case true =>
        rw [hh] at p1
        simp only [if_true] at p1
        rw [if_neg (show ¬ ((true : Bool) = false ∧ so - 1 < ne) by simp), if_neg (by simp)]
        clear hEn hN
        generalize setI is 3 = SI at *
        go_enter Tryz.func40, Tryz.ntmps40
        go_wp2
        go_ret
        exact ⟨rfl, by simpa using (kX.set 5 (.int .i64 SI)).alloc (.cells (cmC ⟨5, 3, ca, co⟩) 25), (touch_one X 5 _ w).trans (Touch.of_below ((Below.refl _ _).alloc (Nat.le_refl _) _) (by simp; omega))⟩
      case false =>
        rw [hh] at p1
        simp only [Bool.false_eq_true, if_false] at p1
        generalize setI is 3 = SI at *
        have kX0 := kX.alloc (.cells (cmC ⟨5, 3, ca, co⟩) 25)
        have kC := Blk.new w 25 (cmC ⟨5, 3, ca, co⟩)
        have B0 : Below w.heap.size w (w.alloc (.cells (cmC ⟨5, 3, ca, co⟩) 25)) := (Below.refl _ w).alloc (Nat.le_refl _) _
        by_cases hlt : so - 1 < ne
        · rw [if_pos (show (false : Bool) = false ∧ so - 1 < ne from ⟨rfl, hlt⟩), if_pos (by decide)]
          rw [show decide (ne + 1 ≤ so) = false by simp; omega] at hEn
          go_enter Tryz.func40, Tryz.ntmps40
          go_wp2_with (first | ((with_reducible refine (hN _).mono ?_); rintro e w1 ⟨rfl, q1⟩; have kX1 := kX0.below q1 kX0.lt; have B1 := bthen B0 q1; have hEn1 := hEn _ kX1) | ((with_reducible refine hEn1.mono ?_); rintro e w2 ⟨rfl, q2⟩))
          go_ret
          exact ⟨rfl, kX1.below q2 kX1.lt, Touch.of_below (bthen B1 q2) (Nat.le_of_lt hXl)⟩
        · rw [if_neg (show ¬ ((false : Bool) = false ∧ so - 1 < ne) from fun h => hlt h.2), if_neg (by simp)]
          rw [show decide (ne + 1 ≤ so) = true by simp; omega] at hEn
          go_enter Tryz.func40, Tryz.ntmps40
          go_wp2_with (first | ((with_reducible refine (hN _).mono ?_); rintro e w1 ⟨rfl, q1⟩; have kX1 := kX0.below q1 kX0.lt; have kC1 := kC.below q1 kC.lt; have B1 := bthen B0 q1; have hEn1 := hEn _ kX1) | ((with_reducible refine hEn1.mono ?_); rintro e w2 ⟨rfl, q2⟩; have kX2 := kX1.below q2 kX1.lt; have kC2 := kC1.below q2 kC1.lt; have B2 := bthen B1 q2; have z_5 := kX2.frozen 5; have s_5 := kX2.cell 5; have t_0 := kC2.cell 0; simp at s_5 t_0))
          go_ret
          exact ⟨rfl, by simpa using kX2.set 5 (.int .i64 SI), (Touch.of_below B2 (Nat.le_of_lt hXl)).trans (touch_one X 5 _ _)⟩
end Go.Proofs.YtebkeocpojlepaaGreatDoor
