/- The evaluator at this program. -/
import Derived.Test.YtpbklojdmkpkcaaDoorProg
import Derived.Test.YtpbklojdmkpkcaaDoorArr
namespace Go.Proofs.YtpbklojdmkpkcaaDoor
open Go Go.RowKit
def tid : ET → TypeId
  | .int => 3
  | .u8 => 5
  | .u64 => 22
  | .fix => 24
  | .vec => 26
  | .body => 94
  | .tether => 137
  | .rail => 61
  | .event => 142
  | _ => 0
def etIn (t : TypeId) : List ET → Option ET
  | [] => none
  | e :: r => bif Nat.beq (tid e) t then some e else etIn t r
theorem etIn_ok {t : TypeId} {e : ET} : ∀ {l : List ET}, etIn t l = some e → tid e = t
  | x :: r, h => by
    unfold etIn at h
    cases hb : Nat.beq (tid x) t <;> rw [hb] at h
    · exact etIn_ok h
    · cases h; exact Nat.beq_eq ▸ hb
def etOf (t : TypeId) : Option ET := etIn t [.int, .u8, .u64, .fix, .vec, .body, .tether, .rail, .event]
abbrev mkOrc {P : Program} {I : WInv} (l : List (Ent P tid I)) (x : List (FuncId × (List PV → Tr PV))) : Orc := orcE etOf 0 l x
theorem mkOrc_ok {P : Program} {I : WInv} {l : List (Ent P tid I)} {x : List (FuncId × (List PV → Tr PV))} (hx : AllExt P x) : OrcOk P tid I (mkOrc l x) := orcE_ok (fun _ _ h => etIn_ok h) hx
theorem mixed : Tryd.prog.follows .mixedOrders = true := by kernel_rfl
end Go.Proofs.YtpbklojdmkpkcaaDoor
