/-
  NARROWER THAN 'FOR EVERY INPUT', by the rows' own cells (each row's printed sentence says how): TurnQuarters: laid · TurnTwice: laid · TurnMirror: laid · TurnAll: laid · TurnLong: laid · RailRises: laid · RailRound: laid · RailEnds: laid · RailTurned: laid · RailMade: laid · RailPeriods: laid · RailParents: laid · BurnKeeps: laid · BurnAmounts: laid · BurnHeads: laid · SphereMade: laid · SphereLeast: laid · SphereEdge: laid.
  DERIVED. THE GIVEN ROWS OF THIS SEAT. 18 by the template 'for every input the law returns true; each argument reads behind the call as it read before'; 0 by the template 'total and deterministic' (their statements: YtpbklojdmkpkcaaDoorTotals.lean).
  GIVEN WITH THE SEED: the statements are not yours to turn. If you find one false, say at which input.
  Laid BY PROGRAM, IN A SANDBOX (cutbox-rows.mjs): the forced cells as the released guide's own fill.sh prints them over the translation 568a29c98279a808… (all of the seat's roots in one cut). By AI agents, Wed Nov 11 2026. No macro, syntax, notation, axiom, sorry.
-/
import Derived.Test.YtpbklojdmkpkcaaDoorChecked
import GoSem.Claim
import GoSem.ClaimJoined
import GoSem.ClaimMapViews
import Derived.JoinedTies
import Derived.KernelRfl
namespace Go.Proofs.YtpbklojdmkpkcaaDoor
/- THE CELL 'sum', in the pinned program and in every row, IS THE sha256 OF THE DUMP (.gsa) THAT YtpbklojdmkpkcaaDoorProg.lean LOADS. Nothing in Lean hashes anything: it is a label: what it is worth is what the hold of that sum in a sandbox is worth. -/
noncomputable def Tryd.pinned : Pinned := { name := "ytpbklojdmkpkcaadoor", sum := "568a29c98279a80856229f746ecd2b5fad60493d6751809f22341459c2f09755", checked := Tryd.checked }
namespace Rows
def none {H : Type} : Left H := { results := [], args := [] }

/- WHAT THE LISTED PACKAGE-LEVEL VARIABLES READ AS WHEN THE CALL BEGINS. Each datum BY PROGRAM (the guide's laid-datum.mjs) off the statement by which the dump's own 'gosem.cut.vars' lays the variable. In a bare row this is a premise. The card (YtpbklojdmkpkcaaDoorCards.lean) ties it to the program's text. -/
def laid_perigee_turn_table {H : Type} : DataW H := .agg [.agg [.agg [.lit (.int .i64 0), .lit (.int .u64 13043817825332782212)], .agg [.lit (.int .i64 0), .lit (.int .u64 13043817825332782212)]], .agg [.agg [.lit (.int .i64 0), .lit (.int .u64 17042569291174129989)], .agg [.lit (.int .i64 0), .lit (.int .u64 7059263338087549766)]], .agg [.agg [.lit (.int .i64 0), .lit (.int .u64 18092295058859852118)], .agg [.lit (.int .i64 0), .lit (.int .u64 3598781241489102190)]], .agg [.agg [.lit (.int .i64 0), .lit (.int .u64 18357917958986607856)], .agg [.lit (.int .i64 0), .lit (.int .u64 1808097102496279522)]], .agg [.agg [.lit (.int .i64 0), .lit (.int .u64 18424524162600791837)], .agg [.lit (.int .i64 0), .lit (.int .u64 905138830610008564)]], .agg [.agg [.lit (.int .i64 0), .lit (.int .u64 18441188259278644697)], .agg [.lit (.int .i64 0), .lit (.int .u64 452705761816584075)]], .agg [.agg [.lit (.int .i64 0), .lit (.int .u64 18445355067807029947)], .agg [.lit (.int .i64 0), .lit (.int .u64 226369926147403944)]], .agg [.agg [.lit (.int .i64 0), .lit (.int .u64 18446396818965434987)], .agg [.lit (.int .i64 0), .lit (.int .u64 113187093788755799)]], .agg [.agg [.lit (.int .i64 0), .lit (.int .u64 18446657259819241109)], .agg [.lit (.int .i64 0), .lit (.int .u64 56593813235639861)]], .agg [.agg [.lit (.int .i64 0), .lit (.int .u64 18446722370224206390)], .agg [.lit (.int .i64 0), .lit (.int .u64 28296939910536567)]], .agg [.agg [.lit (.int .i64 0), .lit (.int .u64 18446738647837417334)], .agg [.lit (.int .i64 0), .lit (.int .u64 14148474116859560)]], .agg [.agg [.lit (.int .i64 0), .lit (.int .u64 18446742717241468172)], .agg [.lit (.int .i64 0), .lit (.int .u64 7074237578628960)]], .agg [.agg [.lit (.int .i64 0), .lit (.int .u64 18446743734592527637)], .agg [.lit (.int .i64 0), .lit (.int .u64 3537118854339415)]], .agg [.agg [.lit (.int .i64 0), .lit (.int .u64 18446743988930295426)], .agg [.lit (.int .i64 0), .lit (.int .u64 1768559435302795)]]]
def laid_math_bits_deBruijn64tab {H : Type} : DataW H := .agg [.lit (.int .u8 0), .lit (.int .u8 1), .lit (.int .u8 56), .lit (.int .u8 2), .lit (.int .u8 57), .lit (.int .u8 49), .lit (.int .u8 28), .lit (.int .u8 3), .lit (.int .u8 61), .lit (.int .u8 58), .lit (.int .u8 42), .lit (.int .u8 50), .lit (.int .u8 38), .lit (.int .u8 29), .lit (.int .u8 17), .lit (.int .u8 4), .lit (.int .u8 62), .lit (.int .u8 47), .lit (.int .u8 59), .lit (.int .u8 36), .lit (.int .u8 45), .lit (.int .u8 43), .lit (.int .u8 51), .lit (.int .u8 22), .lit (.int .u8 53), .lit (.int .u8 39), .lit (.int .u8 33), .lit (.int .u8 30), .lit (.int .u8 24), .lit (.int .u8 18), .lit (.int .u8 12), .lit (.int .u8 5), .lit (.int .u8 63), .lit (.int .u8 55), .lit (.int .u8 48), .lit (.int .u8 27), .lit (.int .u8 60), .lit (.int .u8 41), .lit (.int .u8 37), .lit (.int .u8 16), .lit (.int .u8 46), .lit (.int .u8 35), .lit (.int .u8 44), .lit (.int .u8 21), .lit (.int .u8 52), .lit (.int .u8 32), .lit (.int .u8 23), .lit (.int .u8 11), .lit (.int .u8 54), .lit (.int .u8 26), .lit (.int .u8 40), .lit (.int .u8 15), .lit (.int .u8 34), .lit (.int .u8 20), .lit (.int .u8 31), .lit (.int .u8 10), .lit (.int .u8 25), .lit (.int .u8 14), .lit (.int .u8 19), .lit (.int .u8 9), .lit (.int .u8 13), .lit (.int .u8 8), .lit (.int .u8 7), .lit (.int .u8 6)]

/-- 'perigeelaw5.TurnQuarters': WHATEVER THE INPUT: true; the input reads as it did. -/
def turnQuartersSpec : ChangeSpec := { name := "turnQuarters", fn := fun _ => fun
  | [d1, d2] => { results := [.lit (.bool true)], args := [d1, d2] }
  | _ => none }
def turnQuartersRow : OpenClaim := { program := "ytpbklojdmkpkcaadoor", sum := "568a29c98279a80856229f746ecd2b5fad60493d6751809f22341459c2f09755", func := "perigee/perigeelaw5.TurnQuarters", spec := "turnQuarters", inPlace := ["math/bits.Sub64", "math/bits.Add64"], unfollowed := true, recurses := true, named := ["perigee/turn.table"], apart := false, laid := [("perigee/turn.table", laid_perigee_turn_table)] }
def TurnQuartersSaid : Prop := turnQuartersRow.holds Tryd.pinned (OpenSpec.ofChange turnQuartersSpec)

/-- ITS FALSE NEIGHBOUR: 'it returns false'. Refute it at one input. -/
def turnQuartersWrong : ChangeSpec := { name := "turnQuarters", fn := fun _ => fun
  | [d1, d2] => { results := [.lit (.bool false)], args := [d1, d2] }
  | _ => none }
def TurnQuartersWrongFalsely : Prop := turnQuartersRow.holds Tryd.pinned (OpenSpec.ofChange turnQuartersWrong)

/-- 'perigeelaw5.TurnTwice': WHATEVER THE INPUT: true; the input reads as it did. -/
def turnTwiceSpec : ChangeSpec := { name := "turnTwice", fn := fun _ => fun
  | [d1, d2, d3, d4] => { results := [.lit (.bool true)], args := [d1, d2, d3, d4] }
  | _ => none }
def turnTwiceRow : OpenClaim := { program := "ytpbklojdmkpkcaadoor", sum := "568a29c98279a80856229f746ecd2b5fad60493d6751809f22341459c2f09755", func := "perigee/perigeelaw5.TurnTwice", spec := "turnTwice", inPlace := ["math/bits.Sub64", "math/bits.Add64"], unfollowed := true, recurses := true, named := ["perigee/turn.table"], apart := false, laid := [("perigee/turn.table", laid_perigee_turn_table)] }
def TurnTwiceSaid : Prop := turnTwiceRow.holds Tryd.pinned (OpenSpec.ofChange turnTwiceSpec)

/-- ITS FALSE NEIGHBOUR: 'it returns false'. Refute it at one input. -/
def turnTwiceWrong : ChangeSpec := { name := "turnTwice", fn := fun _ => fun
  | [d1, d2, d3, d4] => { results := [.lit (.bool false)], args := [d1, d2, d3, d4] }
  | _ => none }
def TurnTwiceWrongFalsely : Prop := turnTwiceRow.holds Tryd.pinned (OpenSpec.ofChange turnTwiceWrong)

/-- 'perigeelaw5.TurnMirror': WHATEVER THE INPUT: true; the input reads as it did. -/
def turnMirrorSpec : ChangeSpec := { name := "turnMirror", fn := fun _ => fun
  | [d] => { results := [.lit (.bool true)], args := [d] }
  | _ => none }
def turnMirrorRow : OpenClaim := { program := "ytpbklojdmkpkcaadoor", sum := "568a29c98279a80856229f746ecd2b5fad60493d6751809f22341459c2f09755", func := "perigee/perigeelaw5.TurnMirror", spec := "turnMirror", inPlace := ["math/bits.Sub64", "math/bits.Add64"], unfollowed := true, recurses := true, named := ["perigee/turn.table"], apart := false, laid := [("perigee/turn.table", laid_perigee_turn_table)] }
def TurnMirrorSaid : Prop := turnMirrorRow.holds Tryd.pinned (OpenSpec.ofChange turnMirrorSpec)

/-- ITS FALSE NEIGHBOUR: 'it returns false'. Refute it at one input. -/
def turnMirrorWrong : ChangeSpec := { name := "turnMirror", fn := fun _ => fun
  | [d] => { results := [.lit (.bool false)], args := [d] }
  | _ => none }
def TurnMirrorWrongFalsely : Prop := turnMirrorRow.holds Tryd.pinned (OpenSpec.ofChange turnMirrorWrong)

/-- 'perigeelaw5.TurnAll': WHATEVER THE INPUT: true; the input reads as it did. -/
def turnAllSpec : ChangeSpec := { name := "turnAll", fn := fun _ => fun
  | [d1, d2] => { results := [.lit (.bool true)], args := [d1, d2] }
  | _ => none }
def turnAllRow : OpenClaim := { program := "ytpbklojdmkpkcaadoor", sum := "568a29c98279a80856229f746ecd2b5fad60493d6751809f22341459c2f09755", func := "perigee/perigeelaw5.TurnAll", spec := "turnAll", inPlace := ["math/bits.Sub64", "math/bits.Add64"], unfollowed := true, recurses := true, named := ["perigee/turn.table"], apart := false, laid := [("perigee/turn.table", laid_perigee_turn_table)] }
def TurnAllSaid : Prop := turnAllRow.holds Tryd.pinned (OpenSpec.ofChange turnAllSpec)

/-- ITS FALSE NEIGHBOUR: 'it returns false'. Refute it at one input. -/
def turnAllWrong : ChangeSpec := { name := "turnAll", fn := fun _ => fun
  | [d1, d2] => { results := [.lit (.bool false)], args := [d1, d2] }
  | _ => none }
def TurnAllWrongFalsely : Prop := turnAllRow.holds Tryd.pinned (OpenSpec.ofChange turnAllWrong)

/-- 'perigeelaw5.TurnLong': WHATEVER THE INPUT: true; the input reads as it did. -/
def turnLongSpec : ChangeSpec := { name := "turnLong", fn := fun _ => fun
  | [d] => { results := [.lit (.bool true)], args := [d] }
  | _ => none }
def turnLongRow : OpenClaim := { program := "ytpbklojdmkpkcaadoor", sum := "568a29c98279a80856229f746ecd2b5fad60493d6751809f22341459c2f09755", func := "perigee/perigeelaw5.TurnLong", spec := "turnLong", inPlace := ["math/bits.Sub64", "math/bits.Add64"], unfollowed := true, recurses := true, named := ["perigee/turn.table"], apart := false, laid := [("perigee/turn.table", laid_perigee_turn_table)] }
def TurnLongSaid : Prop := turnLongRow.holds Tryd.pinned (OpenSpec.ofChange turnLongSpec)

/-- ITS FALSE NEIGHBOUR: 'it returns false'. Refute it at one input. -/
def turnLongWrong : ChangeSpec := { name := "turnLong", fn := fun _ => fun
  | [d] => { results := [.lit (.bool false)], args := [d] }
  | _ => none }
def TurnLongWrongFalsely : Prop := turnLongRow.holds Tryd.pinned (OpenSpec.ofChange turnLongWrong)

/-- 'perigeelaw20.RailRises': WHATEVER THE INPUT: true; the input reads as it did. -/
def railRisesSpec : ChangeSpec := { name := "railRises", fn := fun _ => fun
  | [d1, d2] => { results := [.lit (.bool true)], args := [d1, d2] }
  | _ => none }
def railRisesRow : OpenClaim := { program := "ytpbklojdmkpkcaadoor", sum := "568a29c98279a80856229f746ecd2b5fad60493d6751809f22341459c2f09755", func := "perigee/perigeelaw20.RailRises", spec := "railRises", inPlace := ["math/bits.Sub64", "math/bits.Add64"], unfollowed := true, recurses := true, named := ["perigee/turn.table"], apart := false, laid := [("perigee/turn.table", laid_perigee_turn_table)] }
def RailRisesSaid : Prop := railRisesRow.holds Tryd.pinned (OpenSpec.ofChange railRisesSpec)

/-- ITS FALSE NEIGHBOUR: 'it returns false'. Refute it at one input. -/
def railRisesWrong : ChangeSpec := { name := "railRises", fn := fun _ => fun
  | [d1, d2] => { results := [.lit (.bool false)], args := [d1, d2] }
  | _ => none }
def RailRisesWrongFalsely : Prop := railRisesRow.holds Tryd.pinned (OpenSpec.ofChange railRisesWrong)

/-- 'perigeelaw20.RailRound': WHATEVER THE INPUT: true; the input reads as it did. -/
def railRoundSpec : ChangeSpec := { name := "railRound", fn := fun _ => fun
  | [d1, d2, d3] => { results := [.lit (.bool true)], args := [d1, d2, d3] }
  | _ => none }
def railRoundRow : OpenClaim := { program := "ytpbklojdmkpkcaadoor", sum := "568a29c98279a80856229f746ecd2b5fad60493d6751809f22341459c2f09755", func := "perigee/perigeelaw20.RailRound", spec := "railRound", inPlace := ["math/bits.Sub64", "math/bits.Add64"], unfollowed := true, recurses := true, named := ["perigee/turn.table"], apart := false, laid := [("perigee/turn.table", laid_perigee_turn_table)] }
def RailRoundSaid : Prop := railRoundRow.holds Tryd.pinned (OpenSpec.ofChange railRoundSpec)

/-- ITS FALSE NEIGHBOUR: 'it returns false'. Refute it at one input. -/
def railRoundWrong : ChangeSpec := { name := "railRound", fn := fun _ => fun
  | [d1, d2, d3] => { results := [.lit (.bool false)], args := [d1, d2, d3] }
  | _ => none }
def RailRoundWrongFalsely : Prop := railRoundRow.holds Tryd.pinned (OpenSpec.ofChange railRoundWrong)

/-- 'perigeelaw20.RailEnds': WHATEVER THE INPUT: true; the input reads as it did. -/
def railEndsSpec : ChangeSpec := { name := "railEnds", fn := fun _ => fun
  | [d1, d2] => { results := [.lit (.bool true)], args := [d1, d2] }
  | _ => none }
def railEndsRow : OpenClaim := { program := "ytpbklojdmkpkcaadoor", sum := "568a29c98279a80856229f746ecd2b5fad60493d6751809f22341459c2f09755", func := "perigee/perigeelaw20.RailEnds", spec := "railEnds", inPlace := ["math/bits.Sub64", "math/bits.Add64"], unfollowed := true, recurses := true, named := ["perigee/turn.table"], apart := false, laid := [("perigee/turn.table", laid_perigee_turn_table)] }
def RailEndsSaid : Prop := railEndsRow.holds Tryd.pinned (OpenSpec.ofChange railEndsSpec)

/-- ITS FALSE NEIGHBOUR: 'it returns false'. Refute it at one input. -/
def railEndsWrong : ChangeSpec := { name := "railEnds", fn := fun _ => fun
  | [d1, d2] => { results := [.lit (.bool false)], args := [d1, d2] }
  | _ => none }
def RailEndsWrongFalsely : Prop := railEndsRow.holds Tryd.pinned (OpenSpec.ofChange railEndsWrong)

/-- 'perigeelaw20.RailTurned': WHATEVER THE INPUT: true; the input reads as it did. -/
def railTurnedSpec : ChangeSpec := { name := "railTurned", fn := fun _ => fun
  | [d1, d2] => { results := [.lit (.bool true)], args := [d1, d2] }
  | _ => none }
def railTurnedRow : OpenClaim := { program := "ytpbklojdmkpkcaadoor", sum := "568a29c98279a80856229f746ecd2b5fad60493d6751809f22341459c2f09755", func := "perigee/perigeelaw20.RailTurned", spec := "railTurned", inPlace := ["math/bits.Sub64", "math/bits.Add64"], unfollowed := true, recurses := true, named := ["perigee/turn.table"], apart := false, laid := [("perigee/turn.table", laid_perigee_turn_table)] }
def RailTurnedSaid : Prop := railTurnedRow.holds Tryd.pinned (OpenSpec.ofChange railTurnedSpec)

/-- ITS FALSE NEIGHBOUR: 'it returns false'. Refute it at one input. -/
def railTurnedWrong : ChangeSpec := { name := "railTurned", fn := fun _ => fun
  | [d1, d2] => { results := [.lit (.bool false)], args := [d1, d2] }
  | _ => none }
def RailTurnedWrongFalsely : Prop := railTurnedRow.holds Tryd.pinned (OpenSpec.ofChange railTurnedWrong)

/-- 'perigeelaw20.RailMade': WHATEVER THE INPUT: true; the input reads as it did. -/
def railMadeSpec : ChangeSpec := { name := "railMade", fn := fun _ => fun
  | [d1, d2, d3] => { results := [.lit (.bool true)], args := [d1, d2, d3] }
  | _ => none }
def railMadeRow : OpenClaim := { program := "ytpbklojdmkpkcaadoor", sum := "568a29c98279a80856229f746ecd2b5fad60493d6751809f22341459c2f09755", func := "perigee/perigeelaw20.RailMade", spec := "railMade", inPlace := ["math/bits.Sub64", "math/bits.Add64"], unfollowed := true, recurses := true, named := ["perigee/turn.table"], apart := false, laid := [("perigee/turn.table", laid_perigee_turn_table)] }
def RailMadeSaid : Prop := railMadeRow.holds Tryd.pinned (OpenSpec.ofChange railMadeSpec)

/-- ITS FALSE NEIGHBOUR: 'it returns false'. Refute it at one input. -/
def railMadeWrong : ChangeSpec := { name := "railMade", fn := fun _ => fun
  | [d1, d2, d3] => { results := [.lit (.bool false)], args := [d1, d2, d3] }
  | _ => none }
def RailMadeWrongFalsely : Prop := railMadeRow.holds Tryd.pinned (OpenSpec.ofChange railMadeWrong)

/-- 'perigeelaw20.RailPeriods': WHATEVER THE INPUT: true; the input reads as it did. -/
def railPeriodsSpec : ChangeSpec := { name := "railPeriods", fn := fun _ => fun
  | [d1, d2, d3] => { results := [.lit (.bool true)], args := [d1, d2, d3] }
  | _ => none }
def railPeriodsRow : OpenClaim := { program := "ytpbklojdmkpkcaadoor", sum := "568a29c98279a80856229f746ecd2b5fad60493d6751809f22341459c2f09755", func := "perigee/perigeelaw20.RailPeriods", spec := "railPeriods", inPlace := ["math/bits.Sub64", "math/bits.Add64"], unfollowed := true, recurses := true, named := ["perigee/turn.table"], apart := false, laid := [("perigee/turn.table", laid_perigee_turn_table)] }
def RailPeriodsSaid : Prop := railPeriodsRow.holds Tryd.pinned (OpenSpec.ofChange railPeriodsSpec)

/-- ITS FALSE NEIGHBOUR: 'it returns false'. Refute it at one input. -/
def railPeriodsWrong : ChangeSpec := { name := "railPeriods", fn := fun _ => fun
  | [d1, d2, d3] => { results := [.lit (.bool false)], args := [d1, d2, d3] }
  | _ => none }
def RailPeriodsWrongFalsely : Prop := railPeriodsRow.holds Tryd.pinned (OpenSpec.ofChange railPeriodsWrong)

/-- 'perigeelaw20.RailParents': WHATEVER THE INPUT: true; the input reads as it did. -/
def railParentsSpec : ChangeSpec := { name := "railParents", fn := fun _ => fun
  | [d1, d2] => { results := [.lit (.bool true)], args := [d1, d2] }
  | _ => none }
def railParentsRow : OpenClaim := { program := "ytpbklojdmkpkcaadoor", sum := "568a29c98279a80856229f746ecd2b5fad60493d6751809f22341459c2f09755", func := "perigee/perigeelaw20.RailParents", spec := "railParents", inPlace := ["math/bits.Sub64", "math/bits.Add64"], unfollowed := true, recurses := true, named := ["perigee/turn.table"], apart := false, laid := [("perigee/turn.table", laid_perigee_turn_table)] }
def RailParentsSaid : Prop := railParentsRow.holds Tryd.pinned (OpenSpec.ofChange railParentsSpec)

/-- ITS FALSE NEIGHBOUR: 'it returns false'. Refute it at one input. -/
def railParentsWrong : ChangeSpec := { name := "railParents", fn := fun _ => fun
  | [d1, d2] => { results := [.lit (.bool false)], args := [d1, d2] }
  | _ => none }
def RailParentsWrongFalsely : Prop := railParentsRow.holds Tryd.pinned (OpenSpec.ofChange railParentsWrong)

/-- 'perigeelaw16.BurnKeeps': WHATEVER THE INPUT: true; the input reads as it did. -/
def burnKeepsSpec : ChangeSpec := { name := "burnKeeps", fn := fun _ => fun
  | [d1, d2, d3] => { results := [.lit (.bool true)], args := [d1, d2, d3] }
  | _ => none }
def burnKeepsRow : OpenClaim := { program := "ytpbklojdmkpkcaadoor", sum := "568a29c98279a80856229f746ecd2b5fad60493d6751809f22341459c2f09755", func := "perigee/perigeelaw16.BurnKeeps", spec := "burnKeeps", inPlace := ["math/bits.Sub64", "math/bits.Add64"], unfollowed := true, recurses := true, named := ["perigee/turn.table", "math/bits.deBruijn64tab"], apart := false, laid := [("math/bits.deBruijn64tab", laid_math_bits_deBruijn64tab), ("perigee/turn.table", laid_perigee_turn_table)] }
def BurnKeepsSaid : Prop := burnKeepsRow.holds Tryd.pinned (OpenSpec.ofChange burnKeepsSpec)

/-- ITS FALSE NEIGHBOUR: 'it returns false'. Refute it at one input. -/
def burnKeepsWrong : ChangeSpec := { name := "burnKeeps", fn := fun _ => fun
  | [d1, d2, d3] => { results := [.lit (.bool false)], args := [d1, d2, d3] }
  | _ => none }
def BurnKeepsWrongFalsely : Prop := burnKeepsRow.holds Tryd.pinned (OpenSpec.ofChange burnKeepsWrong)

/-- 'perigeelaw16.BurnAmounts': WHATEVER THE INPUT: true; the input reads as it did. -/
def burnAmountsSpec : ChangeSpec := { name := "burnAmounts", fn := fun _ => fun
  | [d1, d2, d3, d4, d5, d6] => { results := [.lit (.bool true)], args := [d1, d2, d3, d4, d5, d6] }
  | _ => none }
def burnAmountsRow : OpenClaim := { program := "ytpbklojdmkpkcaadoor", sum := "568a29c98279a80856229f746ecd2b5fad60493d6751809f22341459c2f09755", func := "perigee/perigeelaw16.BurnAmounts", spec := "burnAmounts", inPlace := ["math/bits.Sub64", "math/bits.Add64"], unfollowed := true, recurses := true, named := ["perigee/turn.table", "math/bits.deBruijn64tab"], apart := false, laid := [("math/bits.deBruijn64tab", laid_math_bits_deBruijn64tab), ("perigee/turn.table", laid_perigee_turn_table)] }
def BurnAmountsSaid : Prop := burnAmountsRow.holds Tryd.pinned (OpenSpec.ofChange burnAmountsSpec)

/-- ITS FALSE NEIGHBOUR: 'it returns false'. Refute it at one input. -/
def burnAmountsWrong : ChangeSpec := { name := "burnAmounts", fn := fun _ => fun
  | [d1, d2, d3, d4, d5, d6] => { results := [.lit (.bool false)], args := [d1, d2, d3, d4, d5, d6] }
  | _ => none }
def BurnAmountsWrongFalsely : Prop := burnAmountsRow.holds Tryd.pinned (OpenSpec.ofChange burnAmountsWrong)

/-- 'perigeelaw16.BurnHeads': WHATEVER THE INPUT: true; the input reads as it did. -/
def burnHeadsSpec : ChangeSpec := { name := "burnHeads", fn := fun _ => fun
  | [d1, d2, d3] => { results := [.lit (.bool true)], args := [d1, d2, d3] }
  | _ => none }
def burnHeadsRow : OpenClaim := { program := "ytpbklojdmkpkcaadoor", sum := "568a29c98279a80856229f746ecd2b5fad60493d6751809f22341459c2f09755", func := "perigee/perigeelaw16.BurnHeads", spec := "burnHeads", inPlace := ["math/bits.Sub64", "math/bits.Add64"], unfollowed := true, recurses := true, named := ["perigee/turn.table", "math/bits.deBruijn64tab"], apart := false, laid := [("math/bits.deBruijn64tab", laid_math_bits_deBruijn64tab), ("perigee/turn.table", laid_perigee_turn_table)] }
def BurnHeadsSaid : Prop := burnHeadsRow.holds Tryd.pinned (OpenSpec.ofChange burnHeadsSpec)

/-- ITS FALSE NEIGHBOUR: 'it returns false'. Refute it at one input. -/
def burnHeadsWrong : ChangeSpec := { name := "burnHeads", fn := fun _ => fun
  | [d1, d2, d3] => { results := [.lit (.bool false)], args := [d1, d2, d3] }
  | _ => none }
def BurnHeadsWrongFalsely : Prop := burnHeadsRow.holds Tryd.pinned (OpenSpec.ofChange burnHeadsWrong)

/-- 'perigeelaw21.SphereMade': WHATEVER THE INPUT: true; the input reads as it did. -/
def sphereMadeSpec : ChangeSpec := { name := "sphereMade", fn := fun _ => fun
  | [d1, d2, d3, d4] => { results := [.lit (.bool true)], args := [d1, d2, d3, d4] }
  | _ => none }
def sphereMadeRow : OpenClaim := { program := "ytpbklojdmkpkcaadoor", sum := "568a29c98279a80856229f746ecd2b5fad60493d6751809f22341459c2f09755", func := "perigee/perigeelaw21.SphereMade", spec := "sphereMade", inPlace := ["math/bits.Sub64", "math/bits.Add64"], unfollowed := true, recurses := true, named := ["perigee/turn.table", "math/bits.deBruijn64tab"], apart := false, laid := [("math/bits.deBruijn64tab", laid_math_bits_deBruijn64tab), ("perigee/turn.table", laid_perigee_turn_table)] }
def SphereMadeSaid : Prop := sphereMadeRow.holds Tryd.pinned (OpenSpec.ofChange sphereMadeSpec)

/-- ITS FALSE NEIGHBOUR: 'it returns false'. Refute it at one input. -/
def sphereMadeWrong : ChangeSpec := { name := "sphereMade", fn := fun _ => fun
  | [d1, d2, d3, d4] => { results := [.lit (.bool false)], args := [d1, d2, d3, d4] }
  | _ => none }
def SphereMadeWrongFalsely : Prop := sphereMadeRow.holds Tryd.pinned (OpenSpec.ofChange sphereMadeWrong)

/-- 'perigeelaw21.SphereLeast': WHATEVER THE INPUT: true; the input reads as it did. -/
def sphereLeastSpec : ChangeSpec := { name := "sphereLeast", fn := fun _ => fun
  | [d1, d2, d3, d4] => { results := [.lit (.bool true)], args := [d1, d2, d3, d4] }
  | _ => none }
def sphereLeastRow : OpenClaim := { program := "ytpbklojdmkpkcaadoor", sum := "568a29c98279a80856229f746ecd2b5fad60493d6751809f22341459c2f09755", func := "perigee/perigeelaw21.SphereLeast", spec := "sphereLeast", inPlace := ["math/bits.Sub64", "math/bits.Add64"], unfollowed := true, recurses := true, named := ["perigee/turn.table", "math/bits.deBruijn64tab"], apart := false, laid := [("math/bits.deBruijn64tab", laid_math_bits_deBruijn64tab), ("perigee/turn.table", laid_perigee_turn_table)] }
def SphereLeastSaid : Prop := sphereLeastRow.holds Tryd.pinned (OpenSpec.ofChange sphereLeastSpec)

/-- ITS FALSE NEIGHBOUR: 'it returns false'. Refute it at one input. -/
def sphereLeastWrong : ChangeSpec := { name := "sphereLeast", fn := fun _ => fun
  | [d1, d2, d3, d4] => { results := [.lit (.bool false)], args := [d1, d2, d3, d4] }
  | _ => none }
def SphereLeastWrongFalsely : Prop := sphereLeastRow.holds Tryd.pinned (OpenSpec.ofChange sphereLeastWrong)

/-- 'perigeelaw21.SphereEdge': WHATEVER THE INPUT: true; the input reads as it did. -/
def sphereEdgeSpec : ChangeSpec := { name := "sphereEdge", fn := fun _ => fun
  | [d1, d2] => { results := [.lit (.bool true)], args := [d1, d2] }
  | _ => none }
def sphereEdgeRow : OpenClaim := { program := "ytpbklojdmkpkcaadoor", sum := "568a29c98279a80856229f746ecd2b5fad60493d6751809f22341459c2f09755", func := "perigee/perigeelaw21.SphereEdge", spec := "sphereEdge", inPlace := ["math/bits.Sub64", "math/bits.Add64"], unfollowed := true, recurses := true, named := ["perigee/turn.table", "math/bits.deBruijn64tab"], apart := false, laid := [("math/bits.deBruijn64tab", laid_math_bits_deBruijn64tab), ("perigee/turn.table", laid_perigee_turn_table)] }
def SphereEdgeSaid : Prop := sphereEdgeRow.holds Tryd.pinned (OpenSpec.ofChange sphereEdgeSpec)

/-- ITS FALSE NEIGHBOUR: 'it returns false'. Refute it at one input. -/
def sphereEdgeWrong : ChangeSpec := { name := "sphereEdge", fn := fun _ => fun
  | [d1, d2] => { results := [.lit (.bool false)], args := [d1, d2] }
  | _ => none }
def SphereEdgeWrongFalsely : Prop := sphereEdgeRow.holds Tryd.pinned (OpenSpec.ofChange sphereEdgeWrong)

/- THE SECOND FORM. 'bulk': how many values and letters a reading holds, each counted each time it is reached (what is shared counts as often as it is met; a slice's spare places count too). A statement '..UptoSaid' is the law's where the arguments, and the package variables that the reading takes, are together of bulk at most 1048576: NARROWER than '..Said'. Prove '..Said' where nothing that the law and all that it calls make is longer than what came in: it says more and counts as full. Else prove '..UptoSaid'. A law counts once. -/
mutual
def uptoBulk {H : Type} : DataW H → Nat
  | .lit (.string bytes) => bytes.length + 1
  | .lit _ => 1
  | .nil => 1
  | .ptr d => uptoBulk d + 1
  | .slice elems spare => uptoBulkAll elems + uptoBulkAll spare + 1
  | .agg parts => uptoBulkAll parts + 1
  | .iface _ d => uptoBulk d + 1
  | .map entries => uptoBulkEntries entries + 1
  | .held _ => 1
def uptoBulkAll {H : Type} : List (DataW H) → Nat
  | [] => 0
  | d :: r => uptoBulk d + uptoBulkAll r
def uptoBulkEntries {H : Type} : List (Lit × DataW H) → Nat
  | [] => 0
  | x :: r => uptoBulkEntry x + uptoBulkEntries r
def uptoBulkEntry {H : Type} : Lit × DataW H → Nat
  | (.string bytes, d) => bytes.length + uptoBulk d + 1
  | (_, d) => uptoBulk d + 1
 end
def uptoSmall : (H : Type) → List (DataW H) → Bool := fun _ ds => decide (uptoBulkAll ds ≤ 1048576)
def OpenSpec.upto (s : _root_.Go.ChangeSpec) : _root_.Go.OpenSpec := { _root_.Go.OpenSpec.ofChange s with cond := some uptoSmall }

/-- 'perigeelaw5.TurnQuarters', WHERE WHAT IT READS IS OF BULK AT MOST 1048576: true; the input reads as it did. -/
def turnQuartersUptoRow : OpenClaim := { program := "ytpbklojdmkpkcaadoor", sum := "568a29c98279a80856229f746ecd2b5fad60493d6751809f22341459c2f09755", func := "perigee/perigeelaw5.TurnQuarters", spec := "turnQuarters", inPlace := ["math/bits.Sub64", "math/bits.Add64"], unfollowed := true, recurses := true, named := ["perigee/turn.table"], apart := false, laid := [("perigee/turn.table", laid_perigee_turn_table)], narrowed := true }
def TurnQuartersUptoSaid : Prop := turnQuartersUptoRow.holds Tryd.pinned (OpenSpec.upto turnQuartersSpec)

/-- 'perigeelaw5.TurnTwice', WHERE WHAT IT READS IS OF BULK AT MOST 1048576: true; the input reads as it did. -/
def turnTwiceUptoRow : OpenClaim := { program := "ytpbklojdmkpkcaadoor", sum := "568a29c98279a80856229f746ecd2b5fad60493d6751809f22341459c2f09755", func := "perigee/perigeelaw5.TurnTwice", spec := "turnTwice", inPlace := ["math/bits.Sub64", "math/bits.Add64"], unfollowed := true, recurses := true, named := ["perigee/turn.table"], apart := false, laid := [("perigee/turn.table", laid_perigee_turn_table)], narrowed := true }
def TurnTwiceUptoSaid : Prop := turnTwiceUptoRow.holds Tryd.pinned (OpenSpec.upto turnTwiceSpec)

/-- 'perigeelaw5.TurnMirror', WHERE WHAT IT READS IS OF BULK AT MOST 1048576: true; the input reads as it did. -/
def turnMirrorUptoRow : OpenClaim := { program := "ytpbklojdmkpkcaadoor", sum := "568a29c98279a80856229f746ecd2b5fad60493d6751809f22341459c2f09755", func := "perigee/perigeelaw5.TurnMirror", spec := "turnMirror", inPlace := ["math/bits.Sub64", "math/bits.Add64"], unfollowed := true, recurses := true, named := ["perigee/turn.table"], apart := false, laid := [("perigee/turn.table", laid_perigee_turn_table)], narrowed := true }
def TurnMirrorUptoSaid : Prop := turnMirrorUptoRow.holds Tryd.pinned (OpenSpec.upto turnMirrorSpec)

/-- 'perigeelaw5.TurnAll', WHERE WHAT IT READS IS OF BULK AT MOST 1048576: true; the input reads as it did. -/
def turnAllUptoRow : OpenClaim := { program := "ytpbklojdmkpkcaadoor", sum := "568a29c98279a80856229f746ecd2b5fad60493d6751809f22341459c2f09755", func := "perigee/perigeelaw5.TurnAll", spec := "turnAll", inPlace := ["math/bits.Sub64", "math/bits.Add64"], unfollowed := true, recurses := true, named := ["perigee/turn.table"], apart := false, laid := [("perigee/turn.table", laid_perigee_turn_table)], narrowed := true }
def TurnAllUptoSaid : Prop := turnAllUptoRow.holds Tryd.pinned (OpenSpec.upto turnAllSpec)

/-- 'perigeelaw5.TurnLong', WHERE WHAT IT READS IS OF BULK AT MOST 1048576: true; the input reads as it did. -/
def turnLongUptoRow : OpenClaim := { program := "ytpbklojdmkpkcaadoor", sum := "568a29c98279a80856229f746ecd2b5fad60493d6751809f22341459c2f09755", func := "perigee/perigeelaw5.TurnLong", spec := "turnLong", inPlace := ["math/bits.Sub64", "math/bits.Add64"], unfollowed := true, recurses := true, named := ["perigee/turn.table"], apart := false, laid := [("perigee/turn.table", laid_perigee_turn_table)], narrowed := true }
def TurnLongUptoSaid : Prop := turnLongUptoRow.holds Tryd.pinned (OpenSpec.upto turnLongSpec)

/-- 'perigeelaw20.RailRises', WHERE WHAT IT READS IS OF BULK AT MOST 1048576: true; the input reads as it did. -/
def railRisesUptoRow : OpenClaim := { program := "ytpbklojdmkpkcaadoor", sum := "568a29c98279a80856229f746ecd2b5fad60493d6751809f22341459c2f09755", func := "perigee/perigeelaw20.RailRises", spec := "railRises", inPlace := ["math/bits.Sub64", "math/bits.Add64"], unfollowed := true, recurses := true, named := ["perigee/turn.table"], apart := false, laid := [("perigee/turn.table", laid_perigee_turn_table)], narrowed := true }
def RailRisesUptoSaid : Prop := railRisesUptoRow.holds Tryd.pinned (OpenSpec.upto railRisesSpec)

/-- 'perigeelaw20.RailRound', WHERE WHAT IT READS IS OF BULK AT MOST 1048576: true; the input reads as it did. -/
def railRoundUptoRow : OpenClaim := { program := "ytpbklojdmkpkcaadoor", sum := "568a29c98279a80856229f746ecd2b5fad60493d6751809f22341459c2f09755", func := "perigee/perigeelaw20.RailRound", spec := "railRound", inPlace := ["math/bits.Sub64", "math/bits.Add64"], unfollowed := true, recurses := true, named := ["perigee/turn.table"], apart := false, laid := [("perigee/turn.table", laid_perigee_turn_table)], narrowed := true }
def RailRoundUptoSaid : Prop := railRoundUptoRow.holds Tryd.pinned (OpenSpec.upto railRoundSpec)

/-- 'perigeelaw20.RailEnds', WHERE WHAT IT READS IS OF BULK AT MOST 1048576: true; the input reads as it did. -/
def railEndsUptoRow : OpenClaim := { program := "ytpbklojdmkpkcaadoor", sum := "568a29c98279a80856229f746ecd2b5fad60493d6751809f22341459c2f09755", func := "perigee/perigeelaw20.RailEnds", spec := "railEnds", inPlace := ["math/bits.Sub64", "math/bits.Add64"], unfollowed := true, recurses := true, named := ["perigee/turn.table"], apart := false, laid := [("perigee/turn.table", laid_perigee_turn_table)], narrowed := true }
def RailEndsUptoSaid : Prop := railEndsUptoRow.holds Tryd.pinned (OpenSpec.upto railEndsSpec)

/-- 'perigeelaw20.RailTurned', WHERE WHAT IT READS IS OF BULK AT MOST 1048576: true; the input reads as it did. -/
def railTurnedUptoRow : OpenClaim := { program := "ytpbklojdmkpkcaadoor", sum := "568a29c98279a80856229f746ecd2b5fad60493d6751809f22341459c2f09755", func := "perigee/perigeelaw20.RailTurned", spec := "railTurned", inPlace := ["math/bits.Sub64", "math/bits.Add64"], unfollowed := true, recurses := true, named := ["perigee/turn.table"], apart := false, laid := [("perigee/turn.table", laid_perigee_turn_table)], narrowed := true }
def RailTurnedUptoSaid : Prop := railTurnedUptoRow.holds Tryd.pinned (OpenSpec.upto railTurnedSpec)

/-- 'perigeelaw20.RailMade', WHERE WHAT IT READS IS OF BULK AT MOST 1048576: true; the input reads as it did. -/
def railMadeUptoRow : OpenClaim := { program := "ytpbklojdmkpkcaadoor", sum := "568a29c98279a80856229f746ecd2b5fad60493d6751809f22341459c2f09755", func := "perigee/perigeelaw20.RailMade", spec := "railMade", inPlace := ["math/bits.Sub64", "math/bits.Add64"], unfollowed := true, recurses := true, named := ["perigee/turn.table"], apart := false, laid := [("perigee/turn.table", laid_perigee_turn_table)], narrowed := true }
def RailMadeUptoSaid : Prop := railMadeUptoRow.holds Tryd.pinned (OpenSpec.upto railMadeSpec)

/-- 'perigeelaw20.RailPeriods', WHERE WHAT IT READS IS OF BULK AT MOST 1048576: true; the input reads as it did. -/
def railPeriodsUptoRow : OpenClaim := { program := "ytpbklojdmkpkcaadoor", sum := "568a29c98279a80856229f746ecd2b5fad60493d6751809f22341459c2f09755", func := "perigee/perigeelaw20.RailPeriods", spec := "railPeriods", inPlace := ["math/bits.Sub64", "math/bits.Add64"], unfollowed := true, recurses := true, named := ["perigee/turn.table"], apart := false, laid := [("perigee/turn.table", laid_perigee_turn_table)], narrowed := true }
def RailPeriodsUptoSaid : Prop := railPeriodsUptoRow.holds Tryd.pinned (OpenSpec.upto railPeriodsSpec)

/-- 'perigeelaw20.RailParents', WHERE WHAT IT READS IS OF BULK AT MOST 1048576: true; the input reads as it did. -/
def railParentsUptoRow : OpenClaim := { program := "ytpbklojdmkpkcaadoor", sum := "568a29c98279a80856229f746ecd2b5fad60493d6751809f22341459c2f09755", func := "perigee/perigeelaw20.RailParents", spec := "railParents", inPlace := ["math/bits.Sub64", "math/bits.Add64"], unfollowed := true, recurses := true, named := ["perigee/turn.table"], apart := false, laid := [("perigee/turn.table", laid_perigee_turn_table)], narrowed := true }
def RailParentsUptoSaid : Prop := railParentsUptoRow.holds Tryd.pinned (OpenSpec.upto railParentsSpec)

/-- 'perigeelaw16.BurnKeeps', WHERE WHAT IT READS IS OF BULK AT MOST 1048576: true; the input reads as it did. -/
def burnKeepsUptoRow : OpenClaim := { program := "ytpbklojdmkpkcaadoor", sum := "568a29c98279a80856229f746ecd2b5fad60493d6751809f22341459c2f09755", func := "perigee/perigeelaw16.BurnKeeps", spec := "burnKeeps", inPlace := ["math/bits.Sub64", "math/bits.Add64"], unfollowed := true, recurses := true, named := ["perigee/turn.table", "math/bits.deBruijn64tab"], apart := false, laid := [("math/bits.deBruijn64tab", laid_math_bits_deBruijn64tab), ("perigee/turn.table", laid_perigee_turn_table)], narrowed := true }
def BurnKeepsUptoSaid : Prop := burnKeepsUptoRow.holds Tryd.pinned (OpenSpec.upto burnKeepsSpec)

/-- 'perigeelaw16.BurnAmounts', WHERE WHAT IT READS IS OF BULK AT MOST 1048576: true; the input reads as it did. -/
def burnAmountsUptoRow : OpenClaim := { program := "ytpbklojdmkpkcaadoor", sum := "568a29c98279a80856229f746ecd2b5fad60493d6751809f22341459c2f09755", func := "perigee/perigeelaw16.BurnAmounts", spec := "burnAmounts", inPlace := ["math/bits.Sub64", "math/bits.Add64"], unfollowed := true, recurses := true, named := ["perigee/turn.table", "math/bits.deBruijn64tab"], apart := false, laid := [("math/bits.deBruijn64tab", laid_math_bits_deBruijn64tab), ("perigee/turn.table", laid_perigee_turn_table)], narrowed := true }
def BurnAmountsUptoSaid : Prop := burnAmountsUptoRow.holds Tryd.pinned (OpenSpec.upto burnAmountsSpec)

/-- 'perigeelaw16.BurnHeads', WHERE WHAT IT READS IS OF BULK AT MOST 1048576: true; the input reads as it did. -/
def burnHeadsUptoRow : OpenClaim := { program := "ytpbklojdmkpkcaadoor", sum := "568a29c98279a80856229f746ecd2b5fad60493d6751809f22341459c2f09755", func := "perigee/perigeelaw16.BurnHeads", spec := "burnHeads", inPlace := ["math/bits.Sub64", "math/bits.Add64"], unfollowed := true, recurses := true, named := ["perigee/turn.table", "math/bits.deBruijn64tab"], apart := false, laid := [("math/bits.deBruijn64tab", laid_math_bits_deBruijn64tab), ("perigee/turn.table", laid_perigee_turn_table)], narrowed := true }
def BurnHeadsUptoSaid : Prop := burnHeadsUptoRow.holds Tryd.pinned (OpenSpec.upto burnHeadsSpec)

/-- 'perigeelaw21.SphereMade', WHERE WHAT IT READS IS OF BULK AT MOST 1048576: true; the input reads as it did. -/
def sphereMadeUptoRow : OpenClaim := { program := "ytpbklojdmkpkcaadoor", sum := "568a29c98279a80856229f746ecd2b5fad60493d6751809f22341459c2f09755", func := "perigee/perigeelaw21.SphereMade", spec := "sphereMade", inPlace := ["math/bits.Sub64", "math/bits.Add64"], unfollowed := true, recurses := true, named := ["perigee/turn.table", "math/bits.deBruijn64tab"], apart := false, laid := [("math/bits.deBruijn64tab", laid_math_bits_deBruijn64tab), ("perigee/turn.table", laid_perigee_turn_table)], narrowed := true }
def SphereMadeUptoSaid : Prop := sphereMadeUptoRow.holds Tryd.pinned (OpenSpec.upto sphereMadeSpec)

/-- 'perigeelaw21.SphereLeast', WHERE WHAT IT READS IS OF BULK AT MOST 1048576: true; the input reads as it did. -/
def sphereLeastUptoRow : OpenClaim := { program := "ytpbklojdmkpkcaadoor", sum := "568a29c98279a80856229f746ecd2b5fad60493d6751809f22341459c2f09755", func := "perigee/perigeelaw21.SphereLeast", spec := "sphereLeast", inPlace := ["math/bits.Sub64", "math/bits.Add64"], unfollowed := true, recurses := true, named := ["perigee/turn.table", "math/bits.deBruijn64tab"], apart := false, laid := [("math/bits.deBruijn64tab", laid_math_bits_deBruijn64tab), ("perigee/turn.table", laid_perigee_turn_table)], narrowed := true }
def SphereLeastUptoSaid : Prop := sphereLeastUptoRow.holds Tryd.pinned (OpenSpec.upto sphereLeastSpec)

/-- 'perigeelaw21.SphereEdge', WHERE WHAT IT READS IS OF BULK AT MOST 1048576: true; the input reads as it did. -/
def sphereEdgeUptoRow : OpenClaim := { program := "ytpbklojdmkpkcaadoor", sum := "568a29c98279a80856229f746ecd2b5fad60493d6751809f22341459c2f09755", func := "perigee/perigeelaw21.SphereEdge", spec := "sphereEdge", inPlace := ["math/bits.Sub64", "math/bits.Add64"], unfollowed := true, recurses := true, named := ["perigee/turn.table", "math/bits.deBruijn64tab"], apart := false, laid := [("math/bits.deBruijn64tab", laid_math_bits_deBruijn64tab), ("perigee/turn.table", laid_perigee_turn_table)], narrowed := true }
def SphereEdgeUptoSaid : Prop := sphereEdgeUptoRow.holds Tryd.pinned (OpenSpec.upto sphereEdgeSpec)

end Rows
end Go.Proofs.YtpbklojdmkpkcaaDoor
