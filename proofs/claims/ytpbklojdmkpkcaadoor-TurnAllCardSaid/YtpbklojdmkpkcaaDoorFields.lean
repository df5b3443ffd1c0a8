/- Fields of structs by value: closed facts. -/
import Derived.Test.YtpbklojdmkpkcaaDoorTurnB
namespace Go.Proofs.YtpbklojdmkpkcaaDoor
theorem fld_Sum_0 (a0 a1 a2 : Value) (w : World) : (Instr.field 110 (.agg #[a0, a1, a2]) 0).run Tryd.prog w = .ok (.agg #[a0, a1]) w := by kernel_rfl
theorem fld_Sum_1 (a0 a1 a2 : Value) (w : World) : (Instr.field 110 (.agg #[a0, a1, a2]) 1).run Tryd.prog w = .ok (a2) w := by kernel_rfl
theorem fld_Got_0 (a0 a1 a2 : Value) (w : World) : (Instr.field 41 (.agg #[a0, a1, a2]) 0).run Tryd.prog w = .ok (.agg #[a0, a1]) w := by kernel_rfl
theorem fld_Got_1 (a0 a1 a2 : Value) (w : World) : (Instr.field 41 (.agg #[a0, a1, a2]) 1).run Tryd.prog w = .ok (a2) w := by kernel_rfl
theorem fld_Way_0 (a0 a1 a2 a3 a4 : Value) (w : World) : (Instr.field 47 (.agg #[a0, a1, a2, a3, a4]) 0).run Tryd.prog w = .ok (.agg #[a0, a1, a2, a3]) w := by kernel_rfl
theorem fld_Way_1 (a0 a1 a2 a3 a4 : Value) (w : World) : (Instr.field 47 (.agg #[a0, a1, a2, a3, a4]) 1).run Tryd.prog w = .ok (a4) w := by kernel_rfl
theorem fld_Divided_0 (a0 a1 a2 a3 a4 a5 a6 : Value) (w : World) : (Instr.field 170 (.agg #[a0, a1, a2, a3, a4, a5, a6]) 0).run Tryd.prog w = .ok (.agg #[a0, a1, a2, a3]) w := by kernel_rfl
theorem fld_Divided_1 (a0 a1 a2 a3 a4 a5 a6 : Value) (w : World) : (Instr.field 170 (.agg #[a0, a1, a2, a3, a4, a5, a6]) 1).run Tryd.prog w = .ok (.agg #[a4, a5]) w := by kernel_rfl
theorem fld_Divided_2 (a0 a1 a2 a3 a4 a5 a6 : Value) (w : World) : (Instr.field 170 (.agg #[a0, a1, a2, a3, a4, a5, a6]) 2).run Tryd.prog w = .ok (a6) w := by kernel_rfl
theorem fld_Vec_0 (a0 a1 a2 a3 : Value) (w : World) : (Instr.field 26 (.agg #[a0, a1, a2, a3]) 0).run Tryd.prog w = .ok (.agg #[a0, a1]) w := by kernel_rfl
theorem fld_Vec_1 (a0 a1 a2 a3 : Value) (w : World) : (Instr.field 26 (.agg #[a0, a1, a2, a3]) 1).run Tryd.prog w = .ok (.agg #[a2, a3]) w := by kernel_rfl
theorem fld_Fix_0 (a0 a1 : Value) (w : World) : (Instr.field 24 (.agg #[a0, a1]) 0).run Tryd.prog w = .ok (a0) w := by kernel_rfl
theorem fld_Fix_1 (a0 a1 : Value) (w : World) : (Instr.field 24 (.agg #[a0, a1]) 1).run Tryd.prog w = .ok (a1) w := by kernel_rfl
theorem fld_Two_0 (a0 a1 : Value) (w : World) : (Instr.field 56 (.agg #[a0, a1]) 0).run Tryd.prog w = .ok (a0) w := by kernel_rfl
theorem fld_Two_1 (a0 a1 : Value) (w : World) : (Instr.field 56 (.agg #[a0, a1]) 1).run Tryd.prog w = .ok (a1) w := by kernel_rfl
theorem fld_Four_0 (a0 a1 a2 a3 : Value) (w : World) : (Instr.field 120 (.agg #[a0, a1, a2, a3]) 0).run Tryd.prog w = .ok (.agg #[a0, a1]) w := by kernel_rfl
theorem fld_Four_1 (a0 a1 a2 a3 : Value) (w : World) : (Instr.field 120 (.agg #[a0, a1, a2, a3]) 1).run Tryd.prog w = .ok (.agg #[a2, a3]) w := by kernel_rfl
end Go.Proofs.YtpbklojdmkpkcaaDoor
