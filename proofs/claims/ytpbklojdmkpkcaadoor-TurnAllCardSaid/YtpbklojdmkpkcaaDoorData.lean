/- The program's data, as plain structures; kinds of elements of rows. No program in sight. -/
namespace Go.Proofs.YtpbklojdmkpkcaaDoor

structure Fx where
  h : Int
  l : Int
  deriving DecidableEq, Inhabited
structure Vc where
  X : Fx
  Y : Fx
  deriving DecidableEq, Inhabited
structure Body where
  Mass : Fx
  Radius : Fx
  X : Vc
  P : Vc
  Fuel : Fx
  Rate : Fx
  Exhaust : Fx
  Throttle : Int
  Heading : Int
  deriving DecidableEq, Inhabited
structure Tether where
  A : Int
  B : Int
  Len : Fx
  Limit : Fx
  deriving DecidableEq, Inhabited
structure Rail where
  Parent : Int
  Long : Fx
  Ecc : Fx
  Turn : Int
  Phase : Int
  Period : Int
  Sphere : Fx
  deriving DecidableEq, Inhabited
structure Event where
  Tick : Int
  Kind : Int
  A : Int
  B : Int
  deriving DecidableEq, Inhabited
structure Keyed where
  Key : Int
  Id : Int
  deriving DecidableEq, Inhabited
structure Node where
  Level : Int
  Key : Int
  From : Int
  To : Int
  K0 : Int
  K1 : Int
  K2 : Int
  K3 : Int
  deriving DecidableEq, Inhabited
structure Cell where
  Mass : Fx
  At : Vc
  Width : Fx
  deriving DecidableEq, Inhabited
structure Cmd where
  Kind : Int
  N : Int
  A : Int
  B : Int
  F : Fx
  deriving DecidableEq, Inhabited
structure Pair where
  a : Int
  b : Int
  deriving DecidableEq, Inhabited
/-- The world: its lists are lists. -/
structure Wd where
  Tick : Int
  H : Fx
  G : Fx
  Eps : Fx
  Theta : Fx
  Bounce : Fx
  Gravity : Int
  Step : Int
  Bodies : List Body
  Tethers : List Tether
  Rails : List Rail
  At : List Int
  ExMass : Fx
  ExP : Vc
  Events : List Event
  deriving DecidableEq, Inhabited

/-- Kinds of elements. -/
inductive ET where
  | int | u8 | u64 | fix | vec | body | tether | rail | event | keyed | node | cell | cmd | pair
  deriving DecidableEq
abbrev ET.α : ET → Type
  | .int | .u8 | .u64 => Int
  | .fix => Fx
  | .vec => Vc
  | .body => Body
  | .tether => Tether
  | .rail => Rail
  | .event => Event
  | .keyed => Keyed
  | .node => Node
  | .cell => Cell
  | .cmd => Cmd
  | .pair => Pair
def ET.dflt : (t : ET) → t.α
  | .int | .u8 | .u64 => (0 : Int)
  | .fix => (default : Fx)
  | .vec => (default : Vc)
  | .body => (default : Body)
  | .tether => (default : Tether)
  | .rail => (default : Rail)
  | .event => (default : Event)
  | .keyed => (default : Keyed)
  | .node => (default : Node)
  | .cell => (default : Cell)
  | .cmd => (default : Cmd)
  | .pair => (default : Pair)
end Go.Proofs.YtpbklojdmkpkcaaDoor
