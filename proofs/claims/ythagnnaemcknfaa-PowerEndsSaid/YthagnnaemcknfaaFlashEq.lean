/- '==' of two flashes. -/
import Derived.Test.YthagnnaemcknfaaFlashM
namespace Go.Proofs.Ythagnnaemcknfaa
open Go.RowKit
set_option linter.unusedVariables false
set_option linter.unusedSimpArgs false

theorem beq_ba (a b : ByteArray) : (a == b) = (a.toList == b.toList) := by
  rw [toList_data, toList_data]
  obtain ⟨x⟩ := a
  obtain ⟨y⟩ := b
  show (x == y) = (x.toList == y.toList)
  rw [Array.beq_toList]
theorem eq_strs (s t u v : ByteArray) (w : World) : (Op.equalIn 9999 22 (.agg #[.string s, .string t]) (.agg #[.string u, .string v])).run Try.prog w = .ok (s.toList == u.toList && t.toList == v.toList) w := by
  unfold Op.equalIn
  simp [go_sem, Try.underlying22]
  rw [show List.range' 0 2 = [0, 1] from rfl]
  have h9 : ∀ (a b : ByteArray) (w : World), (Op.equalIn 9998 9 (.string a) (.string b)).run Try.prog w = .ok (a.toList == b.toList) w := fun a b w => by
    unfold Op.equalIn
    simp [go_sem, Try.underlying9, beq_ba]
  simp [go_sem, List.forIn_cons, List.forIn_nil, Try.isAgg9, h9]
  by_cases e1 : s.toList = u.toList <;> by_cases e2 : t.toList = v.toList <;> simp [e1, e2, go_sem, h9]
theorem eq_ints (s t u v : Int) (w : World) : (Op.equalIn 9999 23 (.agg #[.int .i64 s, .int .i64 t]) (.agg #[.int .i64 u, .int .i64 v])).run Try.prog w = .ok (s == u && t == v) w := by
  unfold Op.equalIn
  simp [go_sem, Try.underlying23]
  rw [show List.range' 0 2 = [0, 1] from rfl]
  have h9 : ∀ (a b : Int) (w : World), (Op.equalIn 9998 3 (.int .i64 a) (.int .i64 b)).run Try.prog w = .ok (a == b) w := fun a b w => by
    unfold Op.equalIn
    simp [go_sem, Try.underlying3]
  simp [go_sem, List.forIn_cons, List.forIn_nil, Try.isAgg3, h9]
  by_cases e1 : s = u <;> by_cases e2 : t = v <;> simp [e1, e2, go_sem, h9]
theorem eq_ints_top (s t u v : Int) (w : World) : (Op.equalIn 10000 23 (.agg #[.int .i64 s, .int .i64 t]) (.agg #[.int .i64 u, .int .i64 v])).run Try.prog w = .ok (s == u && t == v) w := by
  unfold Op.equalIn
  simp [go_sem, Try.underlying23]
  rw [show List.range' 0 2 = [0, 1] from rfl]
  have h9 : ∀ (a b : Int) (w : World), (Op.equalIn 9999 3 (.int .i64 a) (.int .i64 b)).run Try.prog w = .ok (a == b) w := fun a b w => by
    unfold Op.equalIn
    simp [go_sem, Try.underlying3]
  simp [go_sem, List.forIn_cons, List.forIn_nil, Try.isAgg3, h9]
  by_cases e1 : s = u <;> by_cases e2 : t = v <;> simp [e1, e2, go_sem, h9]
end Go.Proofs.Ythagnnaemcknfaa
