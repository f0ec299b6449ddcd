/- Errors: an error is nil or an error code; comparing with nil, and stratagembase.Num. -/
import Derived.Test.YticdfbhbbapbdaaDoorBase
namespace Go.Proofs.YticdfbhbbapbdaaDoor
open Go.RowKit

/-- an error value: nil, or an error code -/
def errV (n : Int) : Value := if n = 0 then .nilIface else .iface 55 (.int .i64 n)
theorem errV_zero : errV 0 = .nilIface := rfl
theorem errV_ne {n : Int} (h : n ≠ 0) : errV n = .iface 55 (.int .i64 n) := by rw [errV, if_neg h]
@[go_sem] theorem run_err_eql (x : Value) (w : World) : (binOp .eql 28 (.iface 55 x) .nilIface).run Tryd.prog w = .ok (.bool false) w := run_eql_held_nil w _ _ x (by kernel_rfl)
@[go_sem] theorem run_err_neq (x : Value) (w : World) : (binOp .neq 28 (.iface 55 x) .nilIface).run Tryd.prog w = .ok (.bool true) w := run_neq_held_nil w _ _ x (by kernel_rfl)
@[go_sem] theorem run_err_as (v : Value) (w : World) : (Instr.typeAssert (.iface 55 v) 28 55 true).run Tryd.prog w = .ok (.tuple #[v, .bool true]) w := by kernel_rfl

theorem num_nil (w : World) : Calls Tryd.prog 12 #[.nilIface] w fun e w' => e = .returned (.int .i64 0) ∧ w = w' := by
  go_enter Tryd.func12, Tryd.ntmps12
  go_wp2
  go_ret
  exact ⟨rfl, rfl⟩
theorem num_err (n : Int) (w : World) : Calls Tryd.prog 12 #[.iface 55 (.int .i64 n)] w fun e w' => e = .returned (.int .i64 n) ∧ w = w' := by
  go_enter Tryd.func12, Tryd.ntmps12
  go_wp2
  go_ret
  exact ⟨rfl, rfl⟩
theorem num_calls (n : Int) (w : World) : Calls Tryd.prog 12 #[errV n] w fun e w' => e = .returned (.int .i64 n) ∧ w = w' := by
  unfold errV
  split
  · subst n; exact num_nil w
  · exact num_err n w
end Go.Proofs.YticdfbhbbapbdaaDoor
