/- flash.caught, as a deferred call: of a frame that panics with an Errno; of a frame that returns. -/
import Derived.Test.YthagnnaemcknfaaFull
import Derived.Defers
import Derived.Recover
import Derived.Laws.Pointers
namespace Go.Proofs.Ythagnnaemcknfaa
open Go.RowKit
set_option linter.unusedVariables false
set_option linter.unusedSimpArgs false

theorem typeAssert_errno (n : Int) (w : World) : (Instr.typeAssert (.iface 31 (.int .i64 n)) 20 31 true).run Try.prog w = .ok (.tuple #[.int .i64 n, .bool true]) w := by
  simp [Instr.typeAssert, go_sem, Try.underlying31]

theorem caught_panicking (p : Addr) (x n : Int) (older : List PanicEntry) (w : World) (hc : w.cell? p = some (.int .i64 x)) (hz : w.frozen? p = false) :
    CallsD Try.prog 21 #[.pointer (some p)] (.panicking ({ v := .iface 31 (.int .i64 n), recovered := false } :: older)) w fun e u' w' =>
      e = .returned (.tuple #[]) ∧ u' = .panicking ({ v := .iface 31 (.int .i64 n), recovered := true } :: older) ∧ w' = w.setCell p (.int .i64 n) := by
  have hta := typeAssert_errno n
  refine callsD_of_wpS Try.func21 rfl fun c₀ cs hu => ?_
  apply wpS_seq
  apply wpS_region
  simp [wpOpsS, go_sem, recoverD, hu, Try.ntmps21, Exit.thenS, Array.replicate_succ]
  refine wpS_of_wp ?_
  go_wp2
  simp [bodyPostS, results, Try.results21]

theorem caught_idle (p : Addr) (w : World) :
    CallsD Try.prog 21 #[.pointer (some p)] .returning w fun e u' w' => e = .returned (.tuple #[]) ∧ u' = .returning ∧ w' = w := by
  refine callsD_of_wpS Try.func21 rfl fun c₀ cs hu => ?_
  apply wpS_seq
  apply wpS_region
  simp [wpOpsS, go_sem, recoverD, hu, Try.ntmps21, Exit.thenS, Array.replicate_succ]
  refine wpS_of_wp ?_
  go_wp2
  cases c₀
  simp_all [bodyPostS, results, Try.results21]
end Go.Proofs.Ythagnnaemcknfaa
