/-
  DERIVED. GIVEN WITH THE SEED: THE CARDS: each row of YtpbklojdmkpkcaaDoorRows.lean that lists a variable, with what it lists TIED to the program's text (the seventh form; the later family's looks); each row that meets fmt, with fmt's text TOLD by the authors' own Lean function (tested against real Go, not proved from fmt's source: count such statements apart). THE CARD IS WHAT COUNTS. Prove the row's statement (the work); the ties are given (YtpbklojdmkpkcaaDoorTie.lean); close each card by the builder's one call (the guide's Derived/Test/ToyasCard.lean, 'card_holds'). Laid BY PROGRAM, IN A SANDBOX (cutbox-door.mjs). By AI agents, Wed Nov 11 2026. No macro, syntax, notation, axiom, sorry.
-/
import Derived.Test.YtpbklojdmkpkcaaDoorRows
import GoSem.ClaimSeven
namespace Go.Proofs.YtpbklojdmkpkcaaDoor
namespace Rows

/-- THE TIED CARD OF 'perigeelaw5.TurnQuarters'. -/
def turnQuartersCard : Claim7 := { stood := { row := turnQuartersRow, standIns := [], harness := (true, "8bfc14350b4171bcb279ca3e0c62a789fbb7a4714cb2232bfb6174c3e1d230cf"), looks := false }, kinds := [], alts := [], laidByText := true, laidKinds := [.data], laidTests := true, laidLooks := .later }
def TurnQuartersCardSaid : Prop := Claim7.holds Tryd.pinned (.plain (OpenSpec.ofChange turnQuartersSpec)) turnQuartersCard

/-- THE TIED CARD OF 'perigeelaw5.TurnTwice'. -/
def turnTwiceCard : Claim7 := { stood := { row := turnTwiceRow, standIns := [], harness := (true, "8bfc14350b4171bcb279ca3e0c62a789fbb7a4714cb2232bfb6174c3e1d230cf"), looks := false }, kinds := [], alts := [], laidByText := true, laidKinds := [.data], laidTests := true, laidLooks := .later }
def TurnTwiceCardSaid : Prop := Claim7.holds Tryd.pinned (.plain (OpenSpec.ofChange turnTwiceSpec)) turnTwiceCard

/-- THE TIED CARD OF 'perigeelaw5.TurnMirror'. -/
def turnMirrorCard : Claim7 := { stood := { row := turnMirrorRow, standIns := [], harness := (true, "8bfc14350b4171bcb279ca3e0c62a789fbb7a4714cb2232bfb6174c3e1d230cf"), looks := false }, kinds := [], alts := [], laidByText := true, laidKinds := [.data], laidTests := true, laidLooks := .later }
def TurnMirrorCardSaid : Prop := Claim7.holds Tryd.pinned (.plain (OpenSpec.ofChange turnMirrorSpec)) turnMirrorCard

/-- THE TIED CARD OF 'perigeelaw5.TurnAll'. -/
def turnAllCard : Claim7 := { stood := { row := turnAllRow, standIns := [], harness := (true, "8bfc14350b4171bcb279ca3e0c62a789fbb7a4714cb2232bfb6174c3e1d230cf"), looks := false }, kinds := [], alts := [], laidByText := true, laidKinds := [.data], laidTests := true, laidLooks := .later }
def TurnAllCardSaid : Prop := Claim7.holds Tryd.pinned (.plain (OpenSpec.ofChange turnAllSpec)) turnAllCard

/-- THE TIED CARD OF 'perigeelaw5.TurnLong'. -/
def turnLongCard : Claim7 := { stood := { row := turnLongRow, standIns := [], harness := (true, "8bfc14350b4171bcb279ca3e0c62a789fbb7a4714cb2232bfb6174c3e1d230cf"), looks := false }, kinds := [], alts := [], laidByText := true, laidKinds := [.data], laidTests := true, laidLooks := .later }
def TurnLongCardSaid : Prop := Claim7.holds Tryd.pinned (.plain (OpenSpec.ofChange turnLongSpec)) turnLongCard

/-- THE TIED CARD OF 'perigeelaw20.RailRises'. -/
def railRisesCard : Claim7 := { stood := { row := railRisesRow, standIns := [], harness := (true, "8bfc14350b4171bcb279ca3e0c62a789fbb7a4714cb2232bfb6174c3e1d230cf"), looks := false }, kinds := [], alts := [], laidByText := true, laidKinds := [.data], laidTests := true, laidLooks := .later }
def RailRisesCardSaid : Prop := Claim7.holds Tryd.pinned (.plain (OpenSpec.ofChange railRisesSpec)) railRisesCard

/-- THE TIED CARD OF 'perigeelaw20.RailRound'. -/
def railRoundCard : Claim7 := { stood := { row := railRoundRow, standIns := [], harness := (true, "8bfc14350b4171bcb279ca3e0c62a789fbb7a4714cb2232bfb6174c3e1d230cf"), looks := false }, kinds := [], alts := [], laidByText := true, laidKinds := [.data], laidTests := true, laidLooks := .later }
def RailRoundCardSaid : Prop := Claim7.holds Tryd.pinned (.plain (OpenSpec.ofChange railRoundSpec)) railRoundCard

/-- THE TIED CARD OF 'perigeelaw20.RailEnds'. -/
def railEndsCard : Claim7 := { stood := { row := railEndsRow, standIns := [], harness := (true, "8bfc14350b4171bcb279ca3e0c62a789fbb7a4714cb2232bfb6174c3e1d230cf"), looks := false }, kinds := [], alts := [], laidByText := true, laidKinds := [.data], laidTests := true, laidLooks := .later }
def RailEndsCardSaid : Prop := Claim7.holds Tryd.pinned (.plain (OpenSpec.ofChange railEndsSpec)) railEndsCard

/-- THE TIED CARD OF 'perigeelaw20.RailTurned'. -/
def railTurnedCard : Claim7 := { stood := { row := railTurnedRow, standIns := [], harness := (true, "8bfc14350b4171bcb279ca3e0c62a789fbb7a4714cb2232bfb6174c3e1d230cf"), looks := false }, kinds := [], alts := [], laidByText := true, laidKinds := [.data], laidTests := true, laidLooks := .later }
def RailTurnedCardSaid : Prop := Claim7.holds Tryd.pinned (.plain (OpenSpec.ofChange railTurnedSpec)) railTurnedCard

/-- THE TIED CARD OF 'perigeelaw20.RailMade'. -/
def railMadeCard : Claim7 := { stood := { row := railMadeRow, standIns := [], harness := (true, "8bfc14350b4171bcb279ca3e0c62a789fbb7a4714cb2232bfb6174c3e1d230cf"), looks := false }, kinds := [], alts := [], laidByText := true, laidKinds := [.data], laidTests := true, laidLooks := .later }
def RailMadeCardSaid : Prop := Claim7.holds Tryd.pinned (.plain (OpenSpec.ofChange railMadeSpec)) railMadeCard

/-- THE TIED CARD OF 'perigeelaw20.RailPeriods'. -/
def railPeriodsCard : Claim7 := { stood := { row := railPeriodsRow, standIns := [], harness := (true, "8bfc14350b4171bcb279ca3e0c62a789fbb7a4714cb2232bfb6174c3e1d230cf"), looks := false }, kinds := [], alts := [], laidByText := true, laidKinds := [.data], laidTests := true, laidLooks := .later }
def RailPeriodsCardSaid : Prop := Claim7.holds Tryd.pinned (.plain (OpenSpec.ofChange railPeriodsSpec)) railPeriodsCard

/-- THE TIED CARD OF 'perigeelaw20.RailParents'. -/
def railParentsCard : Claim7 := { stood := { row := railParentsRow, standIns := [], harness := (true, "8bfc14350b4171bcb279ca3e0c62a789fbb7a4714cb2232bfb6174c3e1d230cf"), looks := false }, kinds := [], alts := [], laidByText := true, laidKinds := [.data], laidTests := true, laidLooks := .later }
def RailParentsCardSaid : Prop := Claim7.holds Tryd.pinned (.plain (OpenSpec.ofChange railParentsSpec)) railParentsCard

/-- THE TIED CARD OF 'perigeelaw16.BurnKeeps'. -/
def burnKeepsCard : Claim7 := { stood := { row := burnKeepsRow, standIns := [], harness := (true, "8bfc14350b4171bcb279ca3e0c62a789fbb7a4714cb2232bfb6174c3e1d230cf"), looks := false }, kinds := [], alts := [], laidByText := true, laidKinds := [.data, .data], laidTests := true, laidLooks := .later }
def BurnKeepsCardSaid : Prop := Claim7.holds Tryd.pinned (.plain (OpenSpec.ofChange burnKeepsSpec)) burnKeepsCard

/-- THE TIED CARD OF 'perigeelaw16.BurnAmounts'. -/
def burnAmountsCard : Claim7 := { stood := { row := burnAmountsRow, standIns := [], harness := (true, "8bfc14350b4171bcb279ca3e0c62a789fbb7a4714cb2232bfb6174c3e1d230cf"), looks := false }, kinds := [], alts := [], laidByText := true, laidKinds := [.data, .data], laidTests := true, laidLooks := .later }
def BurnAmountsCardSaid : Prop := Claim7.holds Tryd.pinned (.plain (OpenSpec.ofChange burnAmountsSpec)) burnAmountsCard

/-- THE TIED CARD OF 'perigeelaw16.BurnHeads'. -/
def burnHeadsCard : Claim7 := { stood := { row := burnHeadsRow, standIns := [], harness := (true, "8bfc14350b4171bcb279ca3e0c62a789fbb7a4714cb2232bfb6174c3e1d230cf"), looks := false }, kinds := [], alts := [], laidByText := true, laidKinds := [.data, .data], laidTests := true, laidLooks := .later }
def BurnHeadsCardSaid : Prop := Claim7.holds Tryd.pinned (.plain (OpenSpec.ofChange burnHeadsSpec)) burnHeadsCard

/-- THE TIED CARD OF 'perigeelaw21.SphereMade'. -/
def sphereMadeCard : Claim7 := { stood := { row := sphereMadeRow, standIns := [], harness := (true, "8bfc14350b4171bcb279ca3e0c62a789fbb7a4714cb2232bfb6174c3e1d230cf"), looks := false }, kinds := [], alts := [], laidByText := true, laidKinds := [.data, .data], laidTests := true, laidLooks := .later }
def SphereMadeCardSaid : Prop := Claim7.holds Tryd.pinned (.plain (OpenSpec.ofChange sphereMadeSpec)) sphereMadeCard

/-- THE TIED CARD OF 'perigeelaw21.SphereLeast'. -/
def sphereLeastCard : Claim7 := { stood := { row := sphereLeastRow, standIns := [], harness := (true, "8bfc14350b4171bcb279ca3e0c62a789fbb7a4714cb2232bfb6174c3e1d230cf"), looks := false }, kinds := [], alts := [], laidByText := true, laidKinds := [.data, .data], laidTests := true, laidLooks := .later }
def SphereLeastCardSaid : Prop := Claim7.holds Tryd.pinned (.plain (OpenSpec.ofChange sphereLeastSpec)) sphereLeastCard

/-- THE TIED CARD OF 'perigeelaw21.SphereEdge'. -/
def sphereEdgeCard : Claim7 := { stood := { row := sphereEdgeRow, standIns := [], harness := (true, "8bfc14350b4171bcb279ca3e0c62a789fbb7a4714cb2232bfb6174c3e1d230cf"), looks := false }, kinds := [], alts := [], laidByText := true, laidKinds := [.data, .data], laidTests := true, laidLooks := .later }
def SphereEdgeCardSaid : Prop := Claim7.holds Tryd.pinned (.plain (OpenSpec.ofChange sphereEdgeSpec)) sphereEdgeCard

/-- THE SECOND FORM's CARD OF 'perigeelaw5.TurnQuarters'. -/
def turnQuartersUptoCard : Claim7 := { stood := { row := turnQuartersUptoRow, standIns := [], harness := (true, "8bfc14350b4171bcb279ca3e0c62a789fbb7a4714cb2232bfb6174c3e1d230cf"), looks := false }, kinds := [], alts := [], laidByText := true, laidKinds := [.data], laidTests := true, laidLooks := .later }
def TurnQuartersUptoCardSaid : Prop := Claim7.holds Tryd.pinned (.plain (OpenSpec.upto turnQuartersSpec)) turnQuartersUptoCard

/-- THE SECOND FORM's CARD OF 'perigeelaw5.TurnTwice'. -/
def turnTwiceUptoCard : Claim7 := { stood := { row := turnTwiceUptoRow, standIns := [], harness := (true, "8bfc14350b4171bcb279ca3e0c62a789fbb7a4714cb2232bfb6174c3e1d230cf"), looks := false }, kinds := [], alts := [], laidByText := true, laidKinds := [.data], laidTests := true, laidLooks := .later }
def TurnTwiceUptoCardSaid : Prop := Claim7.holds Tryd.pinned (.plain (OpenSpec.upto turnTwiceSpec)) turnTwiceUptoCard

/-- THE SECOND FORM's CARD OF 'perigeelaw5.TurnMirror'. -/
def turnMirrorUptoCard : Claim7 := { stood := { row := turnMirrorUptoRow, standIns := [], harness := (true, "8bfc14350b4171bcb279ca3e0c62a789fbb7a4714cb2232bfb6174c3e1d230cf"), looks := false }, kinds := [], alts := [], laidByText := true, laidKinds := [.data], laidTests := true, laidLooks := .later }
def TurnMirrorUptoCardSaid : Prop := Claim7.holds Tryd.pinned (.plain (OpenSpec.upto turnMirrorSpec)) turnMirrorUptoCard

/-- THE SECOND FORM's CARD OF 'perigeelaw5.TurnAll'. -/
def turnAllUptoCard : Claim7 := { stood := { row := turnAllUptoRow, standIns := [], harness := (true, "8bfc14350b4171bcb279ca3e0c62a789fbb7a4714cb2232bfb6174c3e1d230cf"), looks := false }, kinds := [], alts := [], laidByText := true, laidKinds := [.data], laidTests := true, laidLooks := .later }
def TurnAllUptoCardSaid : Prop := Claim7.holds Tryd.pinned (.plain (OpenSpec.upto turnAllSpec)) turnAllUptoCard

/-- THE SECOND FORM's CARD OF 'perigeelaw5.TurnLong'. -/
def turnLongUptoCard : Claim7 := { stood := { row := turnLongUptoRow, standIns := [], harness := (true, "8bfc14350b4171bcb279ca3e0c62a789fbb7a4714cb2232bfb6174c3e1d230cf"), looks := false }, kinds := [], alts := [], laidByText := true, laidKinds := [.data], laidTests := true, laidLooks := .later }
def TurnLongUptoCardSaid : Prop := Claim7.holds Tryd.pinned (.plain (OpenSpec.upto turnLongSpec)) turnLongUptoCard

/-- THE SECOND FORM's CARD OF 'perigeelaw20.RailRises'. -/
def railRisesUptoCard : Claim7 := { stood := { row := railRisesUptoRow, standIns := [], harness := (true, "8bfc14350b4171bcb279ca3e0c62a789fbb7a4714cb2232bfb6174c3e1d230cf"), looks := false }, kinds := [], alts := [], laidByText := true, laidKinds := [.data], laidTests := true, laidLooks := .later }
def RailRisesUptoCardSaid : Prop := Claim7.holds Tryd.pinned (.plain (OpenSpec.upto railRisesSpec)) railRisesUptoCard

/-- THE SECOND FORM's CARD OF 'perigeelaw20.RailRound'. -/
def railRoundUptoCard : Claim7 := { stood := { row := railRoundUptoRow, standIns := [], harness := (true, "8bfc14350b4171bcb279ca3e0c62a789fbb7a4714cb2232bfb6174c3e1d230cf"), looks := false }, kinds := [], alts := [], laidByText := true, laidKinds := [.data], laidTests := true, laidLooks := .later }
def RailRoundUptoCardSaid : Prop := Claim7.holds Tryd.pinned (.plain (OpenSpec.upto railRoundSpec)) railRoundUptoCard

/-- THE SECOND FORM's CARD OF 'perigeelaw20.RailEnds'. -/
def railEndsUptoCard : Claim7 := { stood := { row := railEndsUptoRow, standIns := [], harness := (true, "8bfc14350b4171bcb279ca3e0c62a789fbb7a4714cb2232bfb6174c3e1d230cf"), looks := false }, kinds := [], alts := [], laidByText := true, laidKinds := [.data], laidTests := true, laidLooks := .later }
def RailEndsUptoCardSaid : Prop := Claim7.holds Tryd.pinned (.plain (OpenSpec.upto railEndsSpec)) railEndsUptoCard

/-- THE SECOND FORM's CARD OF 'perigeelaw20.RailTurned'. -/
def railTurnedUptoCard : Claim7 := { stood := { row := railTurnedUptoRow, standIns := [], harness := (true, "8bfc14350b4171bcb279ca3e0c62a789fbb7a4714cb2232bfb6174c3e1d230cf"), looks := false }, kinds := [], alts := [], laidByText := true, laidKinds := [.data], laidTests := true, laidLooks := .later }
def RailTurnedUptoCardSaid : Prop := Claim7.holds Tryd.pinned (.plain (OpenSpec.upto railTurnedSpec)) railTurnedUptoCard

/-- THE SECOND FORM's CARD OF 'perigeelaw20.RailMade'. -/
def railMadeUptoCard : Claim7 := { stood := { row := railMadeUptoRow, standIns := [], harness := (true, "8bfc14350b4171bcb279ca3e0c62a789fbb7a4714cb2232bfb6174c3e1d230cf"), looks := false }, kinds := [], alts := [], laidByText := true, laidKinds := [.data], laidTests := true, laidLooks := .later }
def RailMadeUptoCardSaid : Prop := Claim7.holds Tryd.pinned (.plain (OpenSpec.upto railMadeSpec)) railMadeUptoCard

/-- THE SECOND FORM's CARD OF 'perigeelaw20.RailPeriods'. -/
def railPeriodsUptoCard : Claim7 := { stood := { row := railPeriodsUptoRow, standIns := [], harness := (true, "8bfc14350b4171bcb279ca3e0c62a789fbb7a4714cb2232bfb6174c3e1d230cf"), looks := false }, kinds := [], alts := [], laidByText := true, laidKinds := [.data], laidTests := true, laidLooks := .later }
def RailPeriodsUptoCardSaid : Prop := Claim7.holds Tryd.pinned (.plain (OpenSpec.upto railPeriodsSpec)) railPeriodsUptoCard

/-- THE SECOND FORM's CARD OF 'perigeelaw20.RailParents'. -/
def railParentsUptoCard : Claim7 := { stood := { row := railParentsUptoRow, standIns := [], harness := (true, "8bfc14350b4171bcb279ca3e0c62a789fbb7a4714cb2232bfb6174c3e1d230cf"), looks := false }, kinds := [], alts := [], laidByText := true, laidKinds := [.data], laidTests := true, laidLooks := .later }
def RailParentsUptoCardSaid : Prop := Claim7.holds Tryd.pinned (.plain (OpenSpec.upto railParentsSpec)) railParentsUptoCard

/-- THE SECOND FORM's CARD OF 'perigeelaw16.BurnKeeps'. -/
def burnKeepsUptoCard : Claim7 := { stood := { row := burnKeepsUptoRow, standIns := [], harness := (true, "8bfc14350b4171bcb279ca3e0c62a789fbb7a4714cb2232bfb6174c3e1d230cf"), looks := false }, kinds := [], alts := [], laidByText := true, laidKinds := [.data, .data], laidTests := true, laidLooks := .later }
def BurnKeepsUptoCardSaid : Prop := Claim7.holds Tryd.pinned (.plain (OpenSpec.upto burnKeepsSpec)) burnKeepsUptoCard

/-- THE SECOND FORM's CARD OF 'perigeelaw16.BurnAmounts'. -/
def burnAmountsUptoCard : Claim7 := { stood := { row := burnAmountsUptoRow, standIns := [], harness := (true, "8bfc14350b4171bcb279ca3e0c62a789fbb7a4714cb2232bfb6174c3e1d230cf"), looks := false }, kinds := [], alts := [], laidByText := true, laidKinds := [.data, .data], laidTests := true, laidLooks := .later }
def BurnAmountsUptoCardSaid : Prop := Claim7.holds Tryd.pinned (.plain (OpenSpec.upto burnAmountsSpec)) burnAmountsUptoCard

/-- THE SECOND FORM's CARD OF 'perigeelaw16.BurnHeads'. -/
def burnHeadsUptoCard : Claim7 := { stood := { row := burnHeadsUptoRow, standIns := [], harness := (true, "8bfc14350b4171bcb279ca3e0c62a789fbb7a4714cb2232bfb6174c3e1d230cf"), looks := false }, kinds := [], alts := [], laidByText := true, laidKinds := [.data, .data], laidTests := true, laidLooks := .later }
def BurnHeadsUptoCardSaid : Prop := Claim7.holds Tryd.pinned (.plain (OpenSpec.upto burnHeadsSpec)) burnHeadsUptoCard

/-- THE SECOND FORM's CARD OF 'perigeelaw21.SphereMade'. -/
def sphereMadeUptoCard : Claim7 := { stood := { row := sphereMadeUptoRow, standIns := [], harness := (true, "8bfc14350b4171bcb279ca3e0c62a789fbb7a4714cb2232bfb6174c3e1d230cf"), looks := false }, kinds := [], alts := [], laidByText := true, laidKinds := [.data, .data], laidTests := true, laidLooks := .later }
def SphereMadeUptoCardSaid : Prop := Claim7.holds Tryd.pinned (.plain (OpenSpec.upto sphereMadeSpec)) sphereMadeUptoCard

/-- THE SECOND FORM's CARD OF 'perigeelaw21.SphereLeast'. -/
def sphereLeastUptoCard : Claim7 := { stood := { row := sphereLeastUptoRow, standIns := [], harness := (true, "8bfc14350b4171bcb279ca3e0c62a789fbb7a4714cb2232bfb6174c3e1d230cf"), looks := false }, kinds := [], alts := [], laidByText := true, laidKinds := [.data, .data], laidTests := true, laidLooks := .later }
def SphereLeastUptoCardSaid : Prop := Claim7.holds Tryd.pinned (.plain (OpenSpec.upto sphereLeastSpec)) sphereLeastUptoCard

/-- THE SECOND FORM's CARD OF 'perigeelaw21.SphereEdge'. -/
def sphereEdgeUptoCard : Claim7 := { stood := { row := sphereEdgeUptoRow, standIns := [], harness := (true, "8bfc14350b4171bcb279ca3e0c62a789fbb7a4714cb2232bfb6174c3e1d230cf"), looks := false }, kinds := [], alts := [], laidByText := true, laidKinds := [.data, .data], laidTests := true, laidLooks := .later }
def SphereEdgeUptoCardSaid : Prop := Claim7.holds Tryd.pinned (.plain (OpenSpec.upto sphereEdgeSpec)) sphereEdgeUptoCard
end Rows
end Go.Proofs.YtpbklojdmkpkcaaDoor
