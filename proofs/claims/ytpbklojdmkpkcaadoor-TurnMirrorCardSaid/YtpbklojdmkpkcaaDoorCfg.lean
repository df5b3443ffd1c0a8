/- The evaluator at this program. -/
import Derived.Test.YtpbklojdmkpkcaaDoorProg
import Derived.Test.YtpbklojdmkpkcaaDoorEvJ
namespace Go.Proofs.YtpbklojdmkpkcaaDoor
open Go Go.RowKit
def tid : ET → TypeId
  | .int => 3
  | .u8 => 5
  | .u64 => 22
  | .fix => 24
  | .vec => 26
  | .body => 94
  | .tether => 137
  | .rail => 61
  | .event => 142
  | _ => 0
theorem mixed : Tryd.prog.follows .mixedOrders = true := by kernel_rfl
theorem enters {P : Program} {f : FuncId} {fn : Func} (hf : P.funcs[f]? = some fn) (hn : (fn.name == "runtime.NumGoroutine") = false) (hb : fn.body.isNone = false) : Enters P f := by
  intro args w
  unfold callFunc
  simp only [Sem.run_bind, run_program, Result.andThen_ok, hf, hn, Bool.false_eq_true, if_false, hb, Sem.run_pure]
end Go.Proofs.YtpbklojdmkpkcaaDoor
