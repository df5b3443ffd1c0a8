import Derived.Orders
import Derived.Below
import Derived.KernelRfl
import Derived.Test.YtpbklojdmkpkcaaDoorG4
/- The program's data, as plain structures; kinds of elements of rows. No program in sight. -/
namespace Go.Proofs.YtpbklojdmkpkcaaDoor

structure Fx where
  h : Int
  l : Int
  deriving DecidableEq, Inhabited
structure Vc where
  X : Fx
  Y : Fx
  deriving DecidableEq, Inhabited
structure Body where
  Mass : Fx
  Radius : Fx
  X : Vc
  P : Vc
  Fuel : Fx
  Rate : Fx
  Exhaust : Fx
  Throttle : Int
  Heading : Int
  deriving DecidableEq, Inhabited
structure Tether where
  A : Int
  B : Int
  Len : Fx
  Limit : Fx
  deriving DecidableEq, Inhabited
structure Rail where
  Parent : Int
  Long : Fx
  Ecc : Fx
  Turn : Int
  Phase : Int
  Period : Int
  Sphere : Fx
  deriving DecidableEq, Inhabited
structure Event where
  Tick : Int
  Kind : Int
  A : Int
  B : Int
  deriving DecidableEq, Inhabited
structure Keyed where
  Key : Int
  Id : Int
  deriving DecidableEq, Inhabited
structure Node where
  Level : Int
  Key : Int
  From : Int
  To : Int
  K0 : Int
  K1 : Int
  K2 : Int
  K3 : Int
  deriving DecidableEq, Inhabited
structure Cell where
  Mass : Fx
  At : Vc
  Width : Fx
  deriving DecidableEq, Inhabited
structure Cmd where
  Kind : Int
  N : Int
  A : Int
  B : Int
  F : Fx
  deriving DecidableEq, Inhabited
structure Pair where
  a : Int
  b : Int
  deriving DecidableEq, Inhabited
/-- The world: its lists are lists. -/
structure Wd where
  Tick : Int
  H : Fx
  G : Fx
  Eps : Fx
  Theta : Fx
  Bounce : Fx
  Gravity : Int
  Step : Int
  Bodies : List Body
  Tethers : List Tether
  Rails : List Rail
  At : List Int
  ExMass : Fx
  ExP : Vc
  Events : List Event
  deriving DecidableEq, Inhabited

/-- Kinds of elements. -/
inductive ET where
  | int | u8 | u64 | fix | vec | body | tether | rail | event | keyed | node | cell | cmd | pair
  deriving DecidableEq
abbrev ET.α : ET → Type
  | .int | .u8 | .u64 => Int
  | .fix => Fx
  | .vec => Vc
  | .body => Body
  | .tether => Tether
  | .rail => Rail
  | .event => Event
  | .keyed => Keyed
  | .node => Node
  | .cell => Cell
  | .cmd => Cmd
  | .pair => Pair
def ET.dflt : (t : ET) → t.α
  | .int | .u8 | .u64 => (0 : Int)
  | .fix => (default : Fx)
  | .vec => (default : Vc)
  | .body => (default : Body)
  | .tether => (default : Tether)
  | .rail => (default : Rail)
  | .event => (default : Event)
  | .keyed => (default : Keyed)
  | .node => (default : Node)
  | .cell => (default : Cell)
  | .cmd => (default : Cmd)
  | .pair => (default : Pair)
end Go.Proofs.YtpbklojdmkpkcaaDoor
/- An evaluator of the model's code over values in which blocks have names: definitions. For any program. -/
namespace Go.Proofs.YtpbklojdmkpkcaaDoor
open Go Go.RowKit
set_option linter.unusedVariables false

/-- A value in which blocks of the call's own, and rows, have names. -/
inductive PV where
  | raw (v : Value)
  | ptr (b sz i off : Nat)
  | sl (b sz : Nat)
  | agg (l : List PV)
  | tup (l : List PV)
  | clo (f : FuncId) (caps : List PV)
  | isnil (b : Nat) (neg : Bool)
instance : Inhabited PV := ⟨.raw undef⟩
abbrev PV.int (k : IntKind) (n : Int) : PV := .raw (.int k n)

/-- What lies under a name: a variable's cells, or a row of elements. -/
inductive Blk where
  | cells (cs : List PV) (ty : TypeId)
  | row (own : Bool) (t : ET) (l : List t.α)
  | gone
structure St where
  tmps : Nat → Option PV
  mem : Nat → Option Blk
/-- Where the names are. -/
structure Env where
  at_ : Nat → Option (Nat × Nat)
  len : Nat → Nat
  cap : Nat → Nat

mutual
def PV.emb (E : Env) : PV → Value
  | .raw v => v
  | .ptr b sz i off => .pointer (some ⟨((E.at_ b).getD (0, 0)).1, ((E.at_ b).getD (0, 0)).2 + (i * sz + off), none⟩)
  | .sl b _ => match E.at_ b with
    | some (k, f) => .slice (some ⟨k, f, none⟩) (E.len b) (E.cap b)
    | none => .slice none 0 0
  | .agg l => .agg (PV.embs E l).toArray
  | .tup l => .tuple (PV.embs E l).toArray
  | .clo f caps => .func (.func f) #[] (PV.embs E caps).toArray
  | .isnil b neg => .bool (neg != (E.at_ b).isNone)
def PV.embs (E : Env) : List PV → List Value
  | [] => []
  | v :: r => PV.emb E v :: PV.embs E r
end
mutual
/-- All names that stand in it are such ones. -/
def PV.ok (d : Nat → Bool) : PV → Bool
  | .raw _ => true
  | .ptr b _ _ _ => d b
  | .sl b _ => d b
  | .agg l => PV.oks d l
  | .tup l => PV.oks d l
  | .clo _ caps => PV.oks d caps
  | .isnil b _ => d b
def PV.oks (d : Nat → Bool) : List PV → Bool
  | [] => true
  | v :: r => PV.ok d v && PV.oks d r
end
mutual
def PV.names : PV → List Nat
  | .raw _ => []
  | .ptr b _ _ _ => [b]
  | .sl b _ => [b]
  | .agg l => PV.namess l
  | .tup l => PV.namess l
  | .clo _ caps => PV.namess caps
  | .isnil b _ => [b]
def PV.namess : List PV → List Nat
  | [] => []
  | v :: r => PV.names v ++ PV.namess r
end
def Blk.ok (d : Nat → Bool) : Blk → Bool
  | .cells cs _ => PV.oks d cs
  | .row _ _ _ => true
  | .gone => true
def Blk.names : Blk → List Nat
  | .cells cs _ => PV.namess cs
  | .row _ _ _ => []
  | .gone => []

inductive Ex where
  | normal | ret | exit (id : Nat)
/-- What an evaluation comes to. -/
inductive Tr (α : Type) : Type 1 where
  | ret (a : α)
  | ite (c : Bool) (t e : Tr α)
  | need (p : Prop) (t : Tr α)
  | chk (c : Bool) (t : Tr α)
  | all (σ : Type) (p : σ → Prop) (f : σ → Tr α)
  | done
  | bad (n : Nat)
def Tr.bind {α β : Type} : Tr α → (α → Tr β) → Tr β
  | .ret a, f => f a
  | .ite c t e, f => .ite c (t.bind f) (e.bind f)
  | .need p t, f => .need p (t.bind f)
  | .chk c t, f => .chk c (t.bind f)
  | .all σ p t, f => .all σ p fun x => (t x).bind f
  | .done, _ => .done
  | .bad n, _ => .bad n
open Classical in
noncomputable def Tr.run {α : Type} : Tr α → Option α
  | .ret a => some a
  | .ite c t e => bif c then t.run else e.run
  | .need p t => if p then t.run else none
  | .chk c t => bif c then t.run else none
  | .all _ _ _ => none
  | .done => none
  | .bad _ => none
def Tr.noLoop {α : Type} : Tr α → Tr α
  | .ret a => .ret a
  | .ite c t e => .ite c t.noLoop e.noLoop
  | .need p t => .need p t.noLoop
  | .chk c t => .chk c t.noLoop
  | .all _ _ _ => .bad 90
  | .done => .bad 91
  | .bad n => .bad n

/-- Where truths are known they are looked at. -/
def Tr.force {α : Type} : Tr α → Tr α
  | .ret a => .ret a
  | .ite c t e => match c with
    | true => t.force
    | false => e.force
  | .need p t => .need p t.force
  | .chk c t => match c with
    | true => t.force
    | false => .bad 99
  | .all σ p f => .all σ p fun x => (f x).force
  | .done => .done
  | .bad n => .bad n

/-- What an operation does: what it yields, which blocks it makes, which it turns. -/
structure Out where
  put : PV
  news : List (Nat × Blk) := []
  ups : List (Nat × Blk) := []
/-- Of an operation, once it has come up: which slots it read, which it wrote, which blocks it read, turned, made, named. -/
structure Rec where
  tr : List Nat
  tw : List Nat
  rd : List Nat
  wr : List Nat
  nw : List Nat
  ment : List Nat

def upd {α : Type} (f : Nat → Option α) (k : Nat) (v : α) : Nat → Option α := fun n => bif Nat.beq n k then some v else f n
def upds {α : Type} (f : Nat → Option α) : List (Nat × α) → Nat → Option α
  | [] => f
  | (k, v) :: r => upds (upd f k v) r
def St.app (s : St) (dst : Option Tmp) (o : Out) : St :=
  { tmps := match dst with
      | some d => upd s.tmps d o.put
      | none => s.tmps
    mem := upds s.mem (o.news ++ o.ups) }
def has (l : List Nat) (n : Nat) : Bool := l.any (Nat.beq n)
def restr (m : Nat → Option Blk) (R : List Nat) : Nat → Option Blk := fun n => bif has R n then m n else none

/-- A constant. -/
def PV.ofV : Value → PV
  | .agg cs => .agg (cs.toList.map .raw)
  | .tuple cs => .tup (cs.toList.map .raw)
  | v => .raw v
def opnd (s : St) : Operand → Option PV
  | .tmp t => s.tmps t
  | .const v => some (.ofV v)
  | .func f => some (.clo f [])
  | .global _ => none
def opnds (s : St) : List Operand → Option (List PV)
  | [] => some []
  | x :: r => match opnd s x, opnds s r with
    | some v, some vs => some (v :: vs)
    | _, _ => none

/-- Guards that are known. -/
abbrev Kn := List (Nat × Bool)
def lookK : Kn → Nat → Option Bool
  | [], _ => none
  | (t, b) :: r, n => bif Nat.beq t n then some b else lookK r n
/-- What the evaluation leans on: how one operation, told with its operands' values and the blocks that it may look at, is done. -/
structure Doer where
  foot : Oper → List PV → (Nat → Option Blk) → List Nat
  core : Oper → List PV → (Nat → Option Blk) → Tr Out
  fuel : Nat := 0
  hint : Kn := []

/-- Is all as it must be? The new names are new; all that is named is there; the slot is there. -/
def okDst (nt : Nat) : Option Tmp → Bool
  | some d => Nat.blt d nt
  | none => true
def okNews (s : St) (d : Nat → Bool) : List (Nat × Blk) → Bool
  | [] => true
  | (b, k) :: r => !(s.mem b).isSome && k.ok d && !has (r.map (·.1)) b && okNews s d r
def okOut (nt : Nat) (s : St) (R : List Nat) (dst : Option Tmp) (o : Out) : Bool :=
  okDst nt dst && okNews s (fun n => (s.mem n).isSome || has (o.news.map (·.1)) n) o.news &&
  o.put.ok (fun n => (s.mem n).isSome || has (o.news.map (·.1)) n) && o.ups.all fun u => (s.mem u.1).isSome && has R u.1 && u.2.ok (fun n => (s.mem n).isSome || has (o.news.map (·.1)) n)
def tmpsOf : List Operand → List Nat
  | [] => []
  | .tmp t :: r => t :: tmpsOf r
  | _ :: r => tmpsOf r
def guardTmp (ops : Array Oper) (o : Oper) : List Nat := match o.guard with
  | some (j, _) => ((ops[j]?).bind (·.dst)).toList
  | none => []
def recOf (ops : Array Oper) (o : Oper) (R : List Nat) (out : Out) : Rec :=
  { tr := tmpsOf o.op.operands.toList ++ guardTmp ops o, tw := o.dst.toList, rd := R, wr := out.ups.map (·.1), nw := out.news.map (·.1),
    ment := out.put.names ++ (out.news ++ out.ups).flatMap (·.2.names) }
def skipOut : Out := { put := .raw undef }
def evDo (D : Doer) (nt : Nat) (ops : Array Oper) (o : Oper) (s : St) : Tr (St × Rec) :=
  match opnds s o.op.operands.toList with
  | none => .bad 1
  | some vals =>
    let R := D.foot o vals s.mem
    (D.core o vals (restr s.mem R)).bind fun out =>
      bif okOut nt s R o.dst out then .ret (s.app o.dst out, recOf ops o R out) else .bad 2
def evSkip (nt : Nat) (ops : Array Oper) (o : Oper) (s : St) : Tr (St × Rec) :=
  bif okOut nt s [] o.dst skipOut then .ret (s.app o.dst skipOut, recOf ops o [] skipOut) else .bad 3
/-- A truth that is known from here on. -/
def St.know (s : St) (t : Nat) (b : Bool) : St := { s with tmps := upd s.tmps t (.raw (.bool b)) }
def St.knowO (s : St) : Operand → Bool → St
  | .tmp t, b => s.know t b
  | _, _ => s
def forgetK (d : Option Tmp) : Kn → Kn
  | [] => []
  | (t, b) :: r => bif has d.toList t then forgetK d r else (t, b) :: forgetK d r
def evGo (D : Doer) (nt : Nat) (ops : Array Oper) (o : Oper) (s : St) (kn : Kn) (b : Bool) : Tr (St × Rec × Kn) :=
  (bif b then evDo D nt ops o s else evSkip nt ops o s).bind fun (s', c) => .ret (s', c, forgetK o.dst kn)
def evOp (D : Doer) (nt : Nat) (ops : Array Oper) (o : Oper) (s : St) (kn : Kn) : Tr (St × Rec × Kn) :=
  match o.guard with
  | none => evGo D nt ops o s kn true
  | some (j, want) => match (ops[j]?).bind (·.dst) with
    | none => .bad 4
    | some t => match lookK kn t with
      | some b => evGo D nt ops o s kn (b == want)
      | none => match s.tmps t with
        | some (.raw (.bool b)) => match lookK D.hint t with
          | some h => .chk (b == h) (evGo D nt ops o (s.know t h) ((t, h) :: kn) (h == want))
          | none => .ite b (evGo D nt ops o (s.know t true) ((t, true) :: kn) (true == want)) (evGo D nt ops o (s.know t false) ((t, false) :: kn) (false == want))
        | some (.raw (.tuple _)) => evGo D nt ops o s kn false
        | _ => .bad 4
def evOps (D : Doer) (nt : Nat) (ops : Array Oper) : List Oper → St → Kn → List Rec → Tr (St × List Rec)
  | [], s, _, l => .ret (s, l.reverse)
  | o :: r, s, kn, l => (evOp D nt ops o s kn).bind fun (s, c, kn) => evOps D nt ops r s kn (c :: l)

/-- Of each operation those that come ahead of it in whatever order: bits. -/
def ancs (ops : Array Oper) : List Nat := (Region.before ops).toList
def meet (a b : List Nat) : Bool := a.any (has b)
def clash (x y : Rec) : Bool := meet x.tw y.tr || meet y.tw x.tr || meet x.tw y.tw || meet x.wr y.rd || meet y.wr x.rd || meet x.wr y.wr || meet x.nw y.ment || meet x.nw y.rd || meet y.nw x.rd
/-- Each two that clash come up in the text's order. -/
def okTrace (A : List Nat) : List Rec → List Rec → Bool
  | _, [] => true
  | before, c :: r => (before.zipIdx.all fun (x, i) => !clash x c || (A.getD before.length 0).testBit i) && okTrace A (before ++ [c]) r
/-- What an operation waits for stands ahead of it in the text. -/
def backOk : Nat → List Oper → Bool
  | _, [] => true
  | i, o :: r => (o.after.toList.all fun e => !Region.binds .any e || Nat.blt e.on i) && backOk (i + 1) r
def evRegion (D : Doer) (nt : Nat) (ops : Array Oper) (draw : Bool) (s : St) : Tr St :=
  (evOps D nt ops ops.toList s [] []).noLoop.bind fun (s, l) => bif !draw || (backOk 0 ops.toList && okTrace (ancs ops) [] l) then .ret s else .bad 5
def namesIn (m : Nat → Option Blk) (b : Nat) : List Nat := match m b with
  | some k => k.names
  | none => []
def reach (m : Nat → Option Blk) : Nat → List Nat → List Nat
  | 0, l => l
  | n + 1, l => l ++ reach m n (l.flatMap (namesIn m))

/-- Nothing of what is locked may be turned. -/
def lockD (D : Doer) (lb : List Nat) : Doer := { foot := D.foot, fuel := D.fuel, hint := D.hint, core := fun o vals m => (D.core o vals m).bind fun out => bif out.ups.all (fun u => !has lb u.1) then .ret out else .bad 14 }
/-- The slots that code writes; how many loops stand in it. -/
def asg : Code → List Nat
  | .region _ ops _ => ops.toList.flatMap (·.dst.toList)
  | .seq a b => asg a ++ asg b
  | .cond _ a b => asg a ++ asg b
  | .block _ b => asg b
  | .loop b => asg b
  | _ => []
def loopsIn : Code → Nat
  | .seq a b => loopsIn a + loopsIn b
  | .cond _ a b => loopsIn a + loopsIn b
  | .block _ b => loopsIn b
  | .loop b => loopsIn b + 1
  | _ => 0
/-- What is told of a loop: the slots and names that stand at each round's head; which of the names are new (rows whose true name a round may change); what stands there, by a datum; how the datum is read off; what holds of it; its measure. All by the state in which the loop is come to. -/
structure LSpec where
  σ : Type
  keysT : List Nat
  keysB : List Nat := []
  rows : List Nat := []
  enc : St → σ → List PV × List Blk
  rd : St → St → Option (σ × List (Nat × Option Nat))
  inv : St → σ → Prop
  μ : St → σ → Nat
  fuel : Nat := 0
/-- A loop that is walked round by round, so often at most. -/
def LSpec.un (n : Nat) : LSpec := { σ := Unit, keysT := [], enc := fun _ _ => ([], []), rd := fun _ _ => none, inv := fun _ _ => True, μ := fun _ _ => 0, fuel := n }
abbrev Ren := List (Nat × Option Nat)
def ren : Ren → Nat → Option (Option Nat)
  | [], _ => none
  | (r, o) :: l, n => bif Nat.beq r n then some o else ren l n
def andO : Option Prop → Option Prop → Option Prop
  | some p, some q => some (p ∧ q)
  | _, _ => none
mutual
/-- A value of a round's end is that of the next one's head. -/
def eqPV (ρ : Ren) : PV → PV → Option Prop
  | .raw (.int k a), .raw (.int k' b) => if k = k' then some (a = b) else none
  | .raw (.bool a), .raw (.bool b) => some (a = b)
  | .raw (.slice none 0 0), .raw (.slice none 0 0) => some True
  | .raw (.slice none 0 0), .sl r _ => match ren ρ r with
    | some none => some True
    | _ => none
  | .ptr b sz i off, .ptr b' sz' i' off' => bif Nat.beq b b' && Nat.beq sz sz' && Nat.beq off off' then match ren ρ b' with
    | none => some (i = i')
    | some _ => none else none
  | .sl b sz, .sl r sz' => bif Nat.beq sz sz' then match ren ρ r with
    | none => bif Nat.beq b r then some True else none
    | some (some c) => bif Nat.beq b c then some True else none
    | some none => none else none
  | .agg l, .agg l' => eqPVs ρ l l'
  | .tup l, .tup l' => eqPVs ρ l l'
  | .clo f l, .clo g l' => bif Nat.beq f g then eqPVs ρ l l' else none
  | _, _ => none
def eqPVs (ρ : Ren) : List PV → List PV → Option Prop
  | [], [] => some True
  | u :: r, v :: r' => andO (eqPV ρ u v) (eqPVs ρ r r')
  | _, _ => none
end
def eqBlk (ρ : Ren) : Blk → Blk → Option Prop
  | .cells l ty, .cells l' ty' => bif Nat.beq ty ty' then eqPVs ρ l l' else none
  | .row own t l, .row own' t' l' => bif own == own' then if h : t = t' then some (h ▸ l = l') else none else none
  | _, _ => none
def fitT (ρ : Ren) (s : St) : List Nat → List PV → Option Prop
  | [], [] => some True
  | t :: ts, v :: vs => match s.tmps t with
    | some u => andO (eqPV ρ u v) (fitT ρ s ts vs)
    | none => none
  | _, _ => none
def fit1 (ρ : Ren) (s : St) (r : Nat) (k : Blk) : Option Prop := match ren ρ r with
  | some none => match k with
    | .row _ _ l => some (l = [])
    | _ => none
  | some (some b) => match s.mem b with
    | some k' => eqBlk ρ k' k
    | none => none
  | none => match s.mem r with
    | some k' => eqBlk ρ k' k
    | none => none
def fitB (ρ : Ren) (s : St) : List Nat → List Blk → Option Prop
  | [], [] => some True
  | r :: rs, k :: ks => andO (fit1 ρ s r k) (fitB ρ s rs ks)
  | _, _ => none
def Blk.own : Blk → Bool
  | .cells _ _ => true
  | .row own _ _ => own
  | .gone => false
def tgt (ρ : Ren) (r : Nat) : Option Nat := match ren ρ r with
  | some o => o
  | none => some r
/-- Where the head's own blocks come from. -/
def tgts (ρ : Ren) : List Nat → List Blk → List Nat
  | r :: rs, k :: ks => bif k.own then (tgt ρ r).toList ++ tgts ρ rs ks else tgts ρ rs ks
  | _, _ => []
def nodupB : List Nat → Bool
  | [] => true
  | n :: r => !has r n && nodupB r
def okFit (ρ : Ren) (N : List Nat) (L : LSpec) (v : List PV × List Blk) : Bool :=
  ρ.all (fun p => has L.rows p.1) && nodupB (tgts ρ L.keysB v.2) && (tgts ρ L.keysB v.2).all (fun n => !has N n) && v.1.all (·.ok fun n => has N n || has L.keysB n) && v.2.all (·.ok fun n => has N n || has L.keysB n)
def fitTr (ρ : Ren) (N : List Nat) (L : LSpec) (s : St) (v : List PV × List Blk) : Tr Unit := match fitT ρ s L.keysT v.1, fitB ρ s L.keysB v.2 with
  | some p, some q => bif okFit ρ N L v then .need p (.need q (.ret ())) else .bad 12
  | _, _ => .bad 13
/-- A list's members of a kind, one after the other looked at. -/
def sift {β : Type} (p : Nat → Bool) : List Nat → (List Nat → Tr β) → Tr β
  | [], k => k []
  | n :: r, k => match p n with
    | true => sift p r fun r' => k (n :: r')
    | false => sift p r k
def gather {β : Type} : List Nat → List Nat → (List Nat → Tr β) → Tr β
  | [], acc, k => k acc
  | n :: r, acc, k => match has acc n with
    | true => gather r acc k
    | false => gather r (n :: acc) k
def namesAt (s : St) (t : Nat) : List Nat := match s.tmps t with
  | some v => v.names
  | none => []
def stays (L : LSpec) (N : List Nat) (n : Nat) : Bool := has N n || (has L.keysB n && !has L.rows n)
def okName (s : St) (L : LSpec) (N : List Nat) (n : Nat) : Bool := match s.mem n with
  | some k => k.ok (stays L N)
  | none => false
def okSlot (s : St) (L : LSpec) (N : List Nat) (t : Nat) : Bool := match s.tmps t with
  | some v => v.ok (stays L N)
  | none => false
def isOwn (s : St) (n : Nat) : Bool := match s.mem n with
  | some k => k.own
  | none => false
def gone (s : St) (ρ : Ren) (n : Nat) : Bool := ρ.any fun p => has p.2.toList n && isOwn s n
def okHd (M lt lb : List Nat) (L : LSpec) (s : St) (T N : List Nat) : Bool :=
  N.all (okName s L N) && lt.all (has T) && lb.all (has N) && M.all (stays L N) && nodupB L.keysT && nodupB L.keysB && L.rows.all (fun r => has L.keysB r && !(s.mem r).isSome)
def St.head (s : St) (T N : List Nat) (L : LSpec) (v : List PV × List Blk) : St :=
  { tmps := upds (fun t => bif has T t then s.tmps t else none) (L.keysT.zip v.1), mem := upds (fun n => bif has N n then s.mem n else none) (L.keysB.zip v.2) }
/-- A loop's head, come to for the first time: which slots and names stay. -/
def atHead (nt : Nat) (M lt lb : List Nat) (A : List Nat) (L : LSpec) (s : St) (ρ : Ren) (k : List Nat → List Nat → Tr (Ex × St)) : Tr (Ex × St) :=
  sift (fun t => (s.tmps t).isSome && !has A t && !has L.keysT t) (List.range nt) fun T0 =>
  gather (M ++ lb ++ reach s.mem 3 (T0.flatMap (namesAt s))) [] fun N0 =>
  sift (fun n => !has L.keysB n && !gone s ρ n) N0 fun N1 =>
  sift (okName s L N1) N1 fun N =>
  sift (okSlot s L N) T0 fun T =>
  bif okHd M lt lb L s T N then k T N else .bad 11
def atBack (L : LSpec) (s : St) (N : List Nat) (x : L.σ) (s' : St) : Tr (Ex × St) := match L.rd s s' with
  | some (y, ρ) => (fitTr ρ N L s' (L.enc s y)).bind fun _ => .need (L.inv s y) (.need (L.μ s y < L.μ s x) .done)
  | none => .bad 10
def slotOf : Operand → Nat
  | .tmp t => t
  | _ => 1000000
def evUn (f : Nat → St → Tr (Ex × St)) : Nat → Nat → St → Tr (Ex × St)
  | 0, _, _ => .bad 8
  | n + 1, j, s => (f j s).bind fun (e, s') => match e with
    | .normal => evUn f n (j + 1) s'
    | e => .ret (e, s')
/-- The names' number in a round. -/
def round (k j : Nat) : Nat := k * 1000 + j + 1
def evCode (D : Nat → Doer) (nt : Nat) (M : List Nat) : Code → Nat → List LSpec → List Nat → List Nat → St → Tr (Ex × St)
  | .skip, _, _, _, _, s => .ret (.normal, s)
  | .region _ ops draw, k, _, _, lb, s => (evRegion (lockD (D k) lb) nt ops draw s).bind fun s => .ret (.normal, s)
  | .seq a b, k, Ls, lt, lb, s => (evCode D nt M a k Ls lt lb s).bind fun (e, s) => match e with
    | .normal => evCode D nt M b k (Ls.drop (loopsIn a)) lt lb s
    | e => .ret (e, s)
  | .cond c t e, k, Ls, lt, lb, s => match opnd s c with
    | some (.raw (.bool b)) => match lookK (D k).hint (slotOf c) with
      | some true => .chk b (evCode D nt M t k Ls lt lb (s.knowO c true))
      | some false => .chk (!b) (evCode D nt M e k (Ls.drop (loopsIn t)) lt lb (s.knowO c false))
      | none => .ite b (evCode D nt M t k Ls lt lb (s.knowO c true)) (evCode D nt M e k (Ls.drop (loopsIn t)) lt lb (s.knowO c false))
    | some (.isnil b neg) => match s.mem b with
      | some (.row _ _ l) => .all Bool (fun c => c = true → l = []) fun c => .ite (neg != c) (evCode D nt M t k Ls lt lb s) (evCode D nt M e k (Ls.drop (loopsIn t)) lt lb s)
      | _ => .bad 6
    | _ => .bad 6
  | .block id b, k, Ls, lt, lb, s => (evCode D nt M b k Ls lt lb s).bind fun (e, s) => match e with
    | .exit j => bif Nat.beq j id then .ret (.normal, s) else .ret (.exit j, s)
    | e => .ret (e, s)
  | .loop b, k, Ls, lt, lb, s => match Ls with
    | [] => evUn (fun j s => evCode D nt M b (round k j) [] lt lb s) (D k).fuel 0 s
    | L :: r => match L.fuel with
      | n + 1 => evUn (fun j s => evCode D nt M b (round k j) r lt lb s) (n + 1) 0 s
      | 0 => match L.rd s s with
        | none => .bad 9
        | some (x0, ρ0) => atHead nt M lt lb (asg b) L s ρ0 fun T N => (fitTr ρ0 N L s (L.enc s x0)).bind fun _ => .need (L.inv s x0) (.all L.σ (L.inv s) fun x =>
            (evCode D nt M b k r T N (s.head T N L (L.enc s x))).bind fun (e, s') => match e with
              | .normal => atBack L s N x s'
              | e => .ret (e, s'))
  | .exit id, _, _, _, _, s => .ret (.exit id, s)
  | .ret, _, _, _, _, s => .ret (.ret, s)
  | _, _, _, _, _, _ => .bad 7
end Go.Proofs.YtpbklojdmkpkcaaDoor
/- The evaluator: whatever order a region's operations come up in, they come to what the text's order comes to. -/
namespace Go.Proofs.YtpbklojdmkpkcaaDoor
open Go Go.RowKit
set_option linter.unusedVariables false
set_option linter.unusedSimpArgs false

theorem Tr.run_bind {α β : Type} (f : α → Tr β) : ∀ t : Tr α, (t.bind f).run = t.run.bind fun a => (f a).run
  | .ret a => rfl
  | .ite c t e => by simp only [Tr.bind, Tr.run]; cases c <;> simp [Tr.run_bind f t, Tr.run_bind f e]
  | .need p t => by
    simp only [Tr.bind, Tr.run]
    split
    · exact Tr.run_bind f t
    · rfl
  | .chk c t => by simp only [Tr.bind, Tr.run]; cases c <;> simp [Tr.run_bind f t]
  | .all _ _ _ => rfl
  | .done => rfl
  | .bad _ => rfl
/-- Whatever it comes to is so. -/
def Tr.holds {α : Type} : Tr α → (α → Prop) → Prop
  | .ret a, Q => Q a
  | .ite c t e, Q => (c = true → t.holds Q) ∧ (c = false → e.holds Q)
  | .need p t, Q => p ∧ t.holds Q
  | .chk c t, Q => c = true ∧ t.holds Q
  | .all σ p f, Q => ∀ x : σ, p x → (f x).holds Q
  | .done, _ => True
  | .bad _, _ => False
theorem Tr.holds_bind {α β : Type} (f : α → Tr β) (Q : β → Prop) : ∀ t : Tr α, (t.bind f).holds Q = t.holds fun a => (f a).holds Q
  | .ret a => rfl
  | .ite c t e => by simp only [Tr.bind, Tr.holds, Tr.holds_bind f Q t, Tr.holds_bind f Q e]
  | .need p t => by simp only [Tr.bind, Tr.holds, Tr.holds_bind f Q t]
  | .chk c t => by simp only [Tr.bind, Tr.holds, Tr.holds_bind f Q t]
  | .all σ p t => by
    simp only [Tr.bind, Tr.holds]
    refine forall_congr fun x => ?_
    rw [Tr.holds_bind f Q (t x)]
  | .done => rfl
  | .bad _ => rfl
theorem Tr.holds_noLoop {α : Type} {Q : α → Prop} : ∀ {t : Tr α}, t.noLoop.holds Q → ∃ a, t.run = some a ∧ Q a
  | .ret a, h => ⟨a, rfl, h⟩
  | .ite c t e, h => by
    cases c
    · exact Tr.holds_noLoop (t := e) (h.2 rfl)
    · exact Tr.holds_noLoop (t := t) (h.1 rfl)
  | .need p t, h => by
    obtain ⟨hp, h⟩ := h
    obtain ⟨a, ha, hQ⟩ := Tr.holds_noLoop (t := t) h
    exact ⟨a, by simp only [Tr.run]; rw [if_pos hp]; exact ha, hQ⟩
  | .chk c t, h => by
    obtain ⟨hp, h⟩ := h
    obtain ⟨a, ha, hQ⟩ := Tr.holds_noLoop (t := t) h
    exact ⟨a, by simp only [Tr.run]; rw [hp]; exact ha, hQ⟩
  | .all _ _ _, h => h.elim
  | .done, h => h.elim
  | .bad _, h => h.elim
theorem Tr.holds_mono {α : Type} {Q Q' : α → Prop} (hQ : ∀ a, Q a → Q' a) : ∀ {t : Tr α}, t.holds Q → t.holds Q'
  | .ret a, h => hQ a h
  | .ite c t e, h => ⟨fun hc => Tr.holds_mono hQ (h.1 hc), fun hc => Tr.holds_mono hQ (h.2 hc)⟩
  | .need p t, h => ⟨h.1, Tr.holds_mono hQ h.2⟩
  | .chk c t, h => ⟨h.1, Tr.holds_mono hQ h.2⟩
  | .all σ p f, h => fun x hp => Tr.holds_mono hQ (h x hp)
  | .done, h => h
  | .bad _, h => h
theorem Tr.holds_force {α : Type} {Q : α → Prop} : ∀ {t : Tr α}, t.force.holds Q → t.holds Q
  | .ret a, h => h
  | .ite c t e, h => by
    cases c
    · exact ⟨(fun h => by cases h), fun _ => Tr.holds_force (t := e) h⟩
    · exact ⟨fun _ => Tr.holds_force (t := t) h, (fun h => by cases h)⟩
  | .need p t, h => ⟨h.1, Tr.holds_force h.2⟩
  | .chk c t, h => by
    cases c
    · exact h.elim
    · exact ⟨rfl, Tr.holds_force (t := t) h⟩
  | .all σ p f, h => fun x hp => Tr.holds_force (h x hp)
  | .done, h => h
  | .bad _, h => h.elim

theorem nb (n : Nat) : Nat.beq n n = true := by rw [Nat.beq_eq]
theorem has_iff {l : List Nat} {n : Nat} : has l n = true ↔ n ∈ l := by
  unfold has
  rw [List.any_eq_true]
  constructor
  · rintro ⟨x, hx, he⟩; rw [Nat.beq_eq] at he; exact he ▸ hx
  · exact fun h => ⟨n, h, by rw [Nat.beq_eq]⟩
theorem meet_iff {a b : List Nat} : meet a b = true ↔ ∃ n, n ∈ a ∧ n ∈ b := by
  unfold meet
  rw [List.any_eq_true]
  exact ⟨fun ⟨n, h1, h2⟩ => ⟨n, h1, has_iff.1 h2⟩, fun ⟨n, h1, h2⟩ => ⟨n, h1, has_iff.2 h2⟩⟩
mutual
theorem PV.ok_iff (d : Nat → Bool) : ∀ v : PV, v.ok d = true ↔ ∀ n ∈ v.names, d n = true
  | .raw _ => by simp [PV.ok, PV.names]
  | .ptr b _ _ _ => by simp [PV.ok, PV.names]
  | .sl b _ => by simp [PV.ok, PV.names]
  | .agg l => by simp only [PV.ok, PV.names]; exact PV.oks_iff d l
  | .tup l => by simp only [PV.ok, PV.names]; exact PV.oks_iff d l
  | .clo _ l => by simp only [PV.ok, PV.names]; exact PV.oks_iff d l
  | .isnil _ _ => by simp [PV.ok, PV.names]
theorem PV.oks_iff (d : Nat → Bool) : ∀ l : List PV, PV.oks d l = true ↔ ∀ n ∈ PV.namess l, d n = true
  | [] => by simp [PV.oks, PV.namess]
  | v :: r => by simp [PV.oks, PV.namess, PV.ok_iff d v, PV.oks_iff d r, or_imp, forall_and]
end
theorem Blk.ok_iff (d : Nat → Bool) : ∀ k : Blk, k.ok d = true ↔ ∀ n ∈ k.names, d n = true
  | .cells cs _ => PV.oks_iff d cs
  | .row _ _ _ => by simp [Blk.ok, Blk.names]
  | .gone => by simp [Blk.ok, Blk.names]
theorem upd_same {α : Type} (f : Nat → Option α) (k : Nat) (v : α) : upd f k v k = some v := by
  unfold upd; rw [nb]; rfl
theorem upd_ne {α : Type} (f : Nat → Option α) {k n : Nat} (v : α) (h : n ≠ k) : upd f k v n = f n := by
  unfold upd
  cases hb : Nat.beq n k
  · rfl
  · exact absurd (Nat.beq_eq ▸ hb) h
theorem upd_comm {α : Type} (f : Nat → Option α) {i j : Nat} (v u : α) (h : i ≠ j) : upd (upd f i v) j u = upd (upd f j u) i v := by
  funext n
  by_cases h1 : n = i
  · subst h1; rw [upd_same, upd_ne _ _ h, upd_same]
  · by_cases h2 : n = j
    · subst h2; rw [upd_same, upd_ne _ _ h1, upd_same]
    · rw [upd_ne _ _ h2, upd_ne _ _ h1, upd_ne _ _ h1, upd_ne _ _ h2]
theorem upds_out {α : Type} : ∀ (l : List (Nat × α)) (f : Nat → Option α) (n : Nat), n ∉ l.map (·.1) → upds f l n = f n
  | [], _, _, _ => rfl
  | (k, v) :: r, f, n, h => by
    simp only [List.map_cons, List.mem_cons, not_or] at h
    rw [upds, upds_out r _ n h.2, upd_ne _ _ h.1]
theorem upds_in {α : Type} : ∀ (l : List (Nat × α)) (f g : Nat → Option α) (n : Nat), n ∈ l.map (·.1) → upds f l n = upds g l n
  | [], _, _, _, h => by simp at h
  | (k, v) :: r, f, g, n, h => by
    simp only [upds]
    by_cases hr : n ∈ r.map (·.1)
    · exact upds_in r _ _ n hr
    · rw [upds_out r _ n hr, upds_out r _ n hr]
      simp only [List.map_cons, List.mem_cons] at h
      obtain rfl := h.resolve_right hr
      rw [upd_same, upd_same]
theorem upds_upd {α : Type} : ∀ (l : List (Nat × α)) (f : Nat → Option α) (k : Nat) (v : α), k ∉ l.map (·.1) → upds (upd f k v) l = upd (upds f l) k v
  | [], _, _, _, _ => rfl
  | (j, u) :: r, f, k, v, h => by
    simp only [List.map_cons, List.mem_cons, not_or] at h
    simp only [upds]
    rw [upd_comm f v u h.1, upds_upd r _ k v h.2]
theorem upds_comm {α : Type} : ∀ (l m : List (Nat × α)) (f : Nat → Option α), (∀ n, n ∈ l.map (·.1) → n ∉ m.map (·.1)) → upds (upds f l) m = upds (upds f m) l
  | [], _, _, _ => rfl
  | (k, v) :: r, m, f, h => by
    simp only [upds]
    rw [upds_comm r m _ (fun n hn => h n (by simp [hn])), upds_upd m f k v (h k (by simp))]
theorem upds_some {α : Type} : ∀ (l : List (Nat × α)) (f : Nat → Option α) (n : Nat), (upds f l n).isSome = ((f n).isSome || has (l.map (·.1)) n)
  | [], f, n => by simp [upds, has]
  | (k, v) :: r, f, n => by
    simp only [upds]
    rw [upds_some r]
    simp only [List.map_cons, has, List.any_cons]
    by_cases h : n = k
    · subst h; rw [upd_same, nb]; simp
    · rw [upd_ne _ _ h]
      have : Nat.beq n k = false := by
        cases hb : Nat.beq n k
        · rfl
        · exact absurd (Nat.beq_eq ▸ hb) h
      rw [this]; simp

def Out.all (o : Out) : List (Nat × Blk) := o.news ++ o.ups
theorem St.ext' {s s' : St} (h1 : s.tmps = s'.tmps) (h2 : s.mem = s'.mem) : s = s' := by cases s; cases s'; simp at *; exact ⟨h1, h2⟩
theorem app_tmps_ne {s : St} {d : Option Tmp} {o : Out} {t : Nat} (h : t ∉ d.toList) : (s.app d o).tmps t = s.tmps t := by
  cases d with
  | none => rfl
  | some d => exact upd_ne _ _ (by simpa using h)
theorem app_tmps_eq {s s' : St} {d : Option Tmp} {o : Out} {t : Nat} (h : t ∈ d.toList) : (s.app d o).tmps t = (s'.app d o).tmps t := by
  cases d with
  | none => simp at h
  | some d => simp at h; subst h; exact (upd_same _ _ _).trans (upd_same _ _ _).symm
theorem app_mem_ne {s : St} {d : Option Tmp} {o : Out} {b : Nat} (h : b ∉ o.all.map (·.1)) : (s.app d o).mem b = s.mem b := upds_out _ _ _ h
theorem app_mem_eq {s s' : St} {d : Option Tmp} {o : Out} {b : Nat} (h : b ∈ o.all.map (·.1)) : (s.app d o).mem b = (s'.app d o).mem b := upds_in _ _ _ _ h
theorem app_comm (s : St) {d e : Option Tmp} {o p : Out} (h1 : ∀ t ∈ d.toList, t ∉ e.toList) (h2 : ∀ n, n ∈ o.all.map (·.1) → n ∉ p.all.map (·.1)) :
    (s.app d o).app e p = (s.app e p).app d o := by
  refine St.ext' ?_ (upds_comm _ _ _ h2)
  cases d with
  | none => cases e <;> rfl
  | some d =>
    cases e with
    | none => rfl
    | some e => exact upd_comm _ _ _ (by have := h1 d (by simp); simpa using this)

/-- One step of a run in the text's order. -/
structure Stp where
  o : Oper
  out : Out
  c : Rec
/-- What those among a run's steps that l has come to. -/
def apps (l : Nat → Bool) : Nat → List Stp → St → St
  | _, [], s => s
  | i, x :: r, s => apps l (i + 1) r (bif l i then s.app x.o.dst x.out else s)
theorem apps_tmps {l l' : Nat → Bool} {t : Nat} : ∀ (L : List Stp) (i : Nat) (s s' : St), s.tmps t = s'.tmps t →
    (∀ j x, L[j]? = some x → t ∈ x.o.dst.toList → l (i + j) = l' (i + j)) → (apps l i L s).tmps t = (apps l' i L s').tmps t
  | [], _, _, _, h, _ => h
  | x :: r, i, s, s', h, hw => by
    simp only [apps]
    refine apps_tmps r (i + 1) _ _ ?_ (fun j y hy ht => by have := hw (j + 1) y hy ht; rwa [show i + (j + 1) = i + 1 + j from by omega] at this)
    by_cases ht : t ∈ x.o.dst.toList
    · have := hw 0 x rfl ht
      simp only [Nat.add_zero] at this
      rw [this]
      cases l' i
      · exact h
      · exact app_tmps_eq ht
    · have e1 : (bif l i then s.app x.o.dst x.out else s).tmps t = s.tmps t := by cases l i; rfl; exact app_tmps_ne ht
      have e2 : (bif l' i then s'.app x.o.dst x.out else s').tmps t = s'.tmps t := by cases l' i; rfl; exact app_tmps_ne ht
      rw [e1, e2, h]
theorem apps_mem {l l' : Nat → Bool} {t : Nat} : ∀ (L : List Stp) (i : Nat) (s s' : St), s.mem t = s'.mem t →
    (∀ j x, L[j]? = some x → t ∈ x.out.all.map (·.1) → l (i + j) = l' (i + j)) → (apps l i L s).mem t = (apps l' i L s').mem t
  | [], _, _, _, h, _ => h
  | x :: r, i, s, s', h, hw => by
    simp only [apps]
    refine apps_mem r (i + 1) _ _ ?_ (fun j y hy ht => by have := hw (j + 1) y hy ht; rwa [show i + (j + 1) = i + 1 + j from by omega] at this)
    by_cases ht : t ∈ x.out.all.map (·.1)
    · have := hw 0 x rfl ht
      simp only [Nat.add_zero] at this
      rw [this]
      cases l' i
      · exact h
      · exact app_mem_eq ht
    · have e1 : (bif l i then s.app x.o.dst x.out else s).mem t = s.mem t := by cases l i; rfl; exact app_mem_ne ht
      have e2 : (bif l' i then s'.app x.o.dst x.out else s').mem t = s'.mem t := by cases l' i; rfl; exact app_mem_ne ht
      rw [e1, e2, h]
theorem apps_congr {l l' : Nat → Bool} : ∀ (L : List Stp) (i : Nat) (s : St), (∀ j, i ≤ j → j < i + L.length → l j = l' j) → apps l i L s = apps l' i L s
  | [], _, _, _ => rfl
  | x :: r, i, s, h => by
    simp only [apps]
    rw [h i (Nat.le_refl _) (by simp), apps_congr r (i + 1) _ (fun j h1 h2 => h j (by omega) (by simp; omega))]
/-- What has come up last might as well have come up in its place. -/
theorem apps_push {l : Nat → Bool} {d : Option Tmp} {o : Out} : ∀ (L : List Stp) (i : Nat) (s : St),
    (∀ j x, L[j]? = some x → l (i + j) = true → (∀ t ∈ d.toList, t ∉ x.o.dst.toList) ∧ ∀ n, n ∈ o.all.map (·.1) → n ∉ x.out.all.map (·.1)) →
    apps l i L (s.app d o) = (apps l i L s).app d o
  | [], _, _, _ => rfl
  | x :: r, i, s, h => by
    simp only [apps]
    cases hl : l i
    · exact apps_push r (i + 1) s (fun j y hy hj => h (j + 1) y hy (by rwa [show i + (j + 1) = i + 1 + j from by omega]))
    · obtain ⟨h1, h2⟩ := h 0 x rfl (by simpa using hl)
      simp only [cond_true]
      rw [app_comm s h1 h2]
      exact apps_push r (i + 1) _ (fun j y hy hj => h (j + 1) y hy (by rwa [show i + (j + 1) = i + 1 + j from by omega]))
theorem apps_set {l : Nat → Bool} {k : Nat} {x : Stp} : ∀ (L : List Stp) (i : Nat) (s : St), L[k]? = some x → l (i + k) = false →
    (∀ j y, k < j → L[j]? = some y → l (i + j) = true → (∀ t ∈ x.o.dst.toList, t ∉ y.o.dst.toList) ∧ ∀ n, n ∈ x.out.all.map (·.1) → n ∉ y.out.all.map (·.1)) →
    apps (fun n => l n || Nat.beq n (i + k)) i L s = (apps l i L s).app x.o.dst x.out := by
  induction k with
  | zero =>
    intro L i s hx hl h
    match L, hx with
    | y :: r, hx =>
      simp only [List.getElem?_cons_zero, Option.some.injEq] at hx
      subst hx
      simp only [Nat.add_zero] at hl
      simp only [apps, Nat.add_zero, hl, Bool.false_or, nb, cond_true, cond_false]
      rw [← apps_push r (i + 1) s (fun j z hz hj => h (j + 1) z (by omega) hz (by rwa [show i + (j + 1) = i + 1 + j from by omega]))]
      refine apps_congr r (i + 1) _ (fun j h1 h2 => ?_)
      have : Nat.beq j i = false := by
        cases hb : Nat.beq j i
        · rfl
        · have : j = i := Nat.beq_eq ▸ hb
          omega
      simp [this]
  | succ k ih =>
    intro L i s hx hl h
    match L, hx with
    | y :: r, hx =>
      simp only [List.getElem?_cons_succ] at hx
      have hne : Nat.beq i (i + (k + 1)) = false := by
        cases hb : Nat.beq i (i + (k + 1))
        · rfl
        · have : i = i + (k + 1) := Nat.beq_eq ▸ hb
          omega
      simp only [apps, hne, Bool.or_false]
      have e : i + (k + 1) = i + 1 + k := by omega
      rw [e] at hl ⊢
      exact ih r (i + 1) _ hx hl (fun j z hj hz hlj => h (j + 1) z (by omega) (by simpa using hz) (by rwa [show i + (j + 1) = i + 1 + j from by omega]))
end Go.Proofs.YtpbklojdmkpkcaaDoor
/- The evaluator: a region's operations, in the text's order or in any. -/
namespace Go.Proofs.YtpbklojdmkpkcaaDoor
open Go Go.RowKit
set_option linter.unusedVariables false
set_option linter.unusedSimpArgs false

/-- Its guard lets it by (b), or not. -/
def Guard (ops : Array Oper) (o : Oper) (s : St) (b : Bool) : Prop := match o.guard with
  | none => b = true
  | some (j, want) => ∃ t, (ops[j]?).bind (·.dst) = some t ∧ (s.tmps t = some (.raw (.bool (bif b then want else !want))) ∨ (b = false ∧ ∃ cs, s.tmps t = some (.raw (.tuple cs))))
inductive StepAt (D : Doer) (nt : Nat) (ops : Array Oper) (o : Oper) (s : St) (out : Out) (c : Rec) : Prop
  | did (g : Guard ops o s true) (vals : List PV) (hv : opnds s o.op.operands.toList = some vals) (hr : (D.core o vals (restr s.mem (D.foot o vals s.mem))).run = some out)
      (hk : okOut nt s (D.foot o vals s.mem) o.dst out = true) (hc : c = recOf ops o (D.foot o vals s.mem) out)
  | skipped (g : Guard ops o s false) (ho : out = skipOut) (hk : okOut nt s [] o.dst out = true) (hc : c = recOf ops o [] out)
/-- What it looks at hangs on what it looks at. -/
def Doer.Local (D : Doer) : Prop := ∀ o vals m m', (∀ n ∈ D.foot o vals m, m' n = m n) → D.foot o vals m' = D.foot o vals m

theorem okNews_iff {s : St} {d : Nat → Bool} : ∀ {l : List (Nat × Blk)}, okNews s d l = true ↔ (∀ u ∈ l, s.mem u.1 = none ∧ ∀ n ∈ u.2.names, d n = true) ∧ (l.map (·.1)).Nodup
  | [] => by simp [okNews]
  | (b, k) :: r => by
    have e : (s.mem b).isSome = false ↔ s.mem b = none := by cases s.mem b <;> simp
    simp only [okNews, Bool.and_eq_true, okNews_iff (l := r), Blk.ok_iff, Bool.not_eq_true', List.mem_cons, List.map_cons, List.nodup_cons, forall_eq_or_imp]
    rw [e]
    have e2 : has (r.map (·.1)) b = false ↔ b ∉ r.map (·.1) := by rw [← Bool.not_eq_true, has_iff]
    rw [e2]
    constructor
    · rintro ⟨⟨⟨h1, h2⟩, h3⟩, h4, h5⟩; exact ⟨⟨⟨h1, h2⟩, h4⟩, h3, h5⟩
    · rintro ⟨⟨⟨h1, h2⟩, h4⟩, h3, h5⟩; exact ⟨⟨⟨h1, h2⟩, h3⟩, h4, h5⟩
theorem okOut_iff {nt : Nat} {s : St} {R : List Nat} {dst : Option Tmp} {o : Out} : okOut nt s R dst o = true ↔
    (∀ d ∈ dst.toList, d < nt) ∧ ((∀ u ∈ o.news, s.mem u.1 = none ∧ ∀ n ∈ u.2.names, (s.mem n).isSome = true ∨ n ∈ o.news.map (·.1)) ∧ (o.news.map (·.1)).Nodup) ∧
    (∀ n ∈ o.put.names, (s.mem n).isSome = true ∨ n ∈ o.news.map (·.1)) ∧ ∀ u ∈ o.ups, (s.mem u.1).isSome = true ∧ u.1 ∈ R ∧ ∀ n ∈ u.2.names, (s.mem n).isSome = true ∨ n ∈ o.news.map (·.1) := by
  unfold okOut
  simp only [Bool.and_eq_true, List.all_eq_true]
  have hd : ∀ n, ((s.mem n).isSome || has (o.news.map (·.1)) n) = true ↔ (s.mem n).isSome = true ∨ n ∈ o.news.map (·.1) := fun n => by rw [Bool.or_eq_true, has_iff]
  have e1 : okDst nt dst = true ↔ ∀ d ∈ dst.toList, d < nt := by
    cases dst with
    | none => simp [okDst]
    | some d => simp [okDst, Nat.blt_eq]
  rw [e1, PV.ok_iff, okNews_iff]
  simp only [hd]
  constructor
  · rintro ⟨⟨⟨h1, h2⟩, h3⟩, h4⟩
    refine ⟨h1, h2, h3, fun u hu => ?_⟩
    obtain ⟨⟨a, b⟩, c⟩ := h4 u hu
    rw [Blk.ok_iff] at c
    exact ⟨a, has_iff.1 b, fun n hn => (hd n).1 (c n hn)⟩
  · rintro ⟨h1, h2, h3, h4⟩
    refine ⟨⟨⟨h1, h2⟩, h3⟩, fun u hu => ?_⟩
    obtain ⟨a, b, c⟩ := h4 u hu
    rw [Blk.ok_iff]
    exact ⟨⟨a, has_iff.2 b⟩, fun n hn => (hd n).2 (c n hn)⟩
theorem restr_congr {m m' : Nat → Option Blk} {R : List Nat} (h : ∀ n ∈ R, m' n = m n) : restr m' R = restr m R := by
  funext n
  unfold restr
  cases hn : has R n
  · rfl
  · exact h n (has_iff.1 hn)
theorem opnds_congr {s s' : St} : ∀ (l : List Operand), (∀ t ∈ tmpsOf l, s'.tmps t = s.tmps t) → opnds s' l = opnds s l
  | [], _ => rfl
  | x :: r, h => by
    have hx : opnd s' x = opnd s x := by
      cases x with
      | tmp t => exact h t (by simp [tmpsOf])
      | _ => rfl
    have hr := opnds_congr r (fun t ht => h t (by cases x <;> simp [tmpsOf, ht]))
    simp only [opnds, hx, hr]
theorem Guard.congr {ops : Array Oper} {o : Oper} {s s' : St} {b : Bool} (h : Guard ops o s b) (ht : ∀ t ∈ guardTmp ops o, s'.tmps t = s.tmps t) : Guard ops o s' b := by
  unfold Guard guardTmp at *
  cases hg : o.guard with
  | none => rw [hg] at h; exact h
  | some p =>
    obtain ⟨j, want⟩ := p
    rw [hg] at h ht
    obtain ⟨t, h1, h2⟩ := h
    exact ⟨t, h1, by rw [ht t (by simp [h1])]; exact h2⟩
/-- Where it finds what it found in the text's order, it does what it did. -/
theorem StepAt.congr {D : Doer} (hD : D.Local) {nt : Nat} {ops : Array Oper} {o : Oper} {s s' : St} {out : Out} {c : Rec} (h : StepAt D nt ops o s out c)
    (h1 : ∀ t ∈ c.tr, s'.tmps t = s.tmps t) (h2 : ∀ b ∈ c.rd, s'.mem b = s.mem b) (h3 : ∀ b ∈ c.nw, s'.mem b = none) (h4 : ∀ b ∈ c.ment, (s'.mem b).isSome = true ∨ b ∈ c.nw) : StepAt D nt ops o s' out c := by
  have okc : ∀ R, c = recOf ops o R out → okOut nt s R o.dst out = true → okOut nt s' R o.dst out = true := by
    intro R hc hk
    subst hc
    rw [okOut_iff] at hk ⊢
    obtain ⟨a1, a2, a3, a4⟩ := hk
    refine ⟨a1, ?_, fun n hn => h4 n (List.mem_append_left _ hn), fun u hu => ?_⟩
    · refine ⟨fun u hu => ⟨h3 u.1 (List.mem_map.2 ⟨u, hu, rfl⟩), fun n hn => h4 n ?_⟩, a2.2⟩
      exact List.mem_append_right _ (List.mem_flatMap.2 ⟨u, by simp [hu], hn⟩)
    · obtain ⟨b1, b2, b3⟩ := a4 u hu
      refine ⟨by rw [h2 _ b2]; exact b1, b2, fun n hn => h4 n (List.mem_append_right _ (List.mem_flatMap.2 ⟨u, by simp [hu], hn⟩))⟩
  cases h with
  | did g vals hv hr hk hc =>
    have hR : D.foot o vals s'.mem = D.foot o vals s.mem := hD o vals s.mem s'.mem (fun n hn => h2 n (by rw [hc]; exact hn))
    refine .did (g.congr fun t ht => h1 t (by rw [hc]; exact List.mem_append_right _ ht)) vals ?_ ?_ ?_ ?_
    · rw [opnds_congr _ (fun t ht => h1 t (by rw [hc]; exact List.mem_append_left _ ht))]; exact hv
    · rw [hR, restr_congr (fun n hn => h2 n (by rw [hc]; exact hn))]; exact hr
    · rw [hR]; exact okc _ hc hk
    · rw [hR]; exact hc
  | skipped g ho hk hc =>
    exact .skipped (g.congr fun t ht => h1 t (by rw [hc]; exact List.mem_append_right _ ht)) ho (okc _ hc hk) hc

def KOk (s : St) (kn : Kn) : Prop := ∀ t b, lookK kn t = some b → s.tmps t = some (.raw (.bool b))
theorem lookK_forget {d : Option Tmp} {t : Nat} {b : Bool} : ∀ {kn : Kn}, lookK (forgetK d kn) t = some b → t ∉ d.toList ∧ lookK kn t = some b
  | [], h => by cases h
  | (u, c) :: r, h => by
    unfold forgetK at h
    cases hd : has d.toList u <;> rw [hd] at h
    · simp only [cond_false, lookK] at h ⊢
      cases hu : Nat.beq u t <;> rw [hu] at h
      · exact lookK_forget h
      · have : u = t := Nat.beq_eq ▸ hu
        subst this
        exact ⟨(fun hm => by rw [has_iff.2 hm] at hd; cases hd), h⟩
    · simp only [cond_true] at h
      obtain ⟨h1, h2⟩ := lookK_forget h
      refine ⟨h1, ?_⟩
      simp only [lookK]
      cases hu : Nat.beq u t
      · exact h2
      · have : u = t := Nat.beq_eq ▸ hu
        subst this
        exact absurd (has_iff.1 hd) h1
/-- A run in the text's order, step by step. -/
theorem evGo_run {D : Doer} {nt : Nat} {ops : Array Oper} {o : Oper} {s s' : St} {c : Rec} {kn kn' : Kn} {b : Bool} (hK : KOk s kn) (g : Guard ops o s b) (h : (evGo D nt ops o s kn b).run = some (s', c, kn')) :
    ∃ out, StepAt D nt ops o s out c ∧ s' = s.app o.dst out ∧ KOk s' kn' := by
  unfold evGo at h
  rw [Tr.run_bind, Option.bind_eq_some_iff] at h
  obtain ⟨⟨s1, c1⟩, h1, h2⟩ := h
  simp only [Tr.run, Option.some.injEq, Prod.mk.injEq] at h2
  obtain ⟨rfl, rfl, rfl⟩ := h2
  have keep : ∀ out, KOk (s.app o.dst out) (forgetK o.dst kn) := by
    intro out t b' hb
    obtain ⟨k1, k2⟩ := lookK_forget hb
    rw [app_tmps_ne k1]
    exact hK t b' k2
  cases b
  · simp only [cond_false] at h1
    unfold evSkip at h1
    cases hk : okOut nt s [] o.dst skipOut
    · rw [hk] at h1; simp [Tr.run] at h1
    · rw [hk] at h1
      simp only [cond_true, Tr.run, Option.some.injEq, Prod.mk.injEq] at h1
      obtain ⟨rfl, rfl⟩ := h1
      exact ⟨skipOut, .skipped g rfl hk rfl, rfl, keep _⟩
  · simp only [cond_true] at h1
    unfold evDo at h1
    cases hv : opnds s o.op.operands.toList with
    | none => rw [hv] at h1; simp [Tr.run] at h1
    | some vals =>
      rw [hv] at h1
      simp only [Tr.run_bind, Option.bind_eq_some_iff] at h1
      obtain ⟨out, hr, h1⟩ := h1
      cases hk : okOut nt s (D.foot o vals s.mem) o.dst out
      · rw [hk] at h1; simp [Tr.run] at h1
      · rw [hk] at h1
        simp only [cond_true, Tr.run, Option.some.injEq, Prod.mk.injEq] at h1
        obtain ⟨rfl, rfl⟩ := h1
        exact ⟨out, .did g vals hv hr hk rfl, rfl, keep _⟩
theorem know_self {s : St} {t : Nat} {b : Bool} (h : s.tmps t = some (.raw (.bool b))) : s.know t b = s := by
  refine St.ext' ?_ rfl
  funext n
  by_cases hn : n = t
  · subst hn; show upd s.tmps n _ n = _; rw [upd_same, h]
  · exact upd_ne _ _ hn
theorem knowO_self {s : St} {c : Operand} {b : Bool} (h : opnd s c = some (.raw (.bool b))) : s.knowO c b = s := by
  cases c with
  | tmp t => exact know_self h
  | _ => rfl
theorem run_chk' {α : Type} {c : Bool} {t : Tr α} {a : α} (h : (Tr.chk c t).run = some a) : c = true ∧ t.run = some a := by
  simp only [Tr.run] at h
  cases c
  · cases h
  · exact ⟨rfl, h⟩
theorem evOp_run {D : Doer} {nt : Nat} {ops : Array Oper} {o : Oper} {s s' : St} {c : Rec} {kn kn' : Kn} (hK : KOk s kn) (h : (evOp D nt ops o s kn).run = some (s', c, kn')) : ∃ out, StepAt D nt ops o s out c ∧ s' = s.app o.dst out ∧ KOk s' kn' := by
  unfold evOp at h
  split at h
  · rename_i hg
    exact evGo_run hK (by unfold Guard; rw [hg]) h
  · rename_i j want hg
    split at h
    · simp [Tr.run] at h
    · rename_i t ht
      have hG : ∀ b : Bool, s.tmps t = some (.raw (.bool b)) → Guard ops o s (b == want) := by
        intro b hb
        unfold Guard
        rw [hg]
        refine ⟨t, ht, .inl ?_⟩
        rw [hb]
        cases b <;> cases want <;> rfl
      split at h
      · rename_i b hb
        exact evGo_run hK (hG b (hK t b hb)) h
      · split at h
        · rename_i b hb
          have hK' : ∀ b', b' = b → KOk s ((t, b') :: kn) := by
            rintro b' rfl u c' hu
            simp only [lookK] at hu
            cases hut : Nat.beq t u <;> rw [hut] at hu
            · exact hK u c' hu
            · have : t = u := Nat.beq_eq ▸ hut
              subst this
              simp only [cond_true, Option.some.injEq] at hu
              subst hu
              exact hb
          split at h
          · rename_i h' hh
            obtain ⟨hbb, h⟩ := run_chk' h
            have hbb : b = h' := by simpa using hbb
            subst hbb
            rw [know_self hb] at h
            exact evGo_run (hK' b rfl) (hG b hb) h
          · simp only [Tr.run] at h
            cases b
            · simp only [cond_false, know_self hb] at h; exact evGo_run (hK' false rfl) (hG false hb) h
            · simp only [cond_true, know_self hb] at h; exact evGo_run (hK' true rfl) (hG true hb) h
        · rename_i cs hb
          exact evGo_run hK (by unfold Guard; rw [hg]; exact ⟨t, ht, .inr ⟨rfl, cs, hb⟩⟩) h
        · simp [Tr.run] at h
theorem apps_shift {l : Nat → Bool} : ∀ (L : List Stp) (i : Nat) (s : St), apps l (i + 1) L s = apps (fun j => l (j + 1)) i L s
  | [], _, _ => rfl
  | x :: r, i, s => by simp only [apps]; exact apps_shift r (i + 1) _
theorem apps_none {l : Nat → Bool} : ∀ (L : List Stp) (i : Nat) (s : St), (∀ j, l (i + j) = false) → apps l i L s = s
  | [], _, _, _ => rfl
  | x :: r, i, s, h => by
    simp only [apps]
    rw [show l i = false from h 0, cond_false]
    exact apps_none r (i + 1) s (fun j => by have := h (j + 1); rwa [show i + (j + 1) = i + 1 + j from by omega] at this)
theorem evOps_run {D : Doer} {nt : Nat} {ops : Array Oper} : ∀ (L : List Oper) (s : St) (kn : Kn) (acc : List Rec) (s' : St) (l : List Rec), KOk s kn → (evOps D nt ops L s kn acc).run = some (s', l) →
    ∃ S : List Stp, l = acc.reverse ++ S.map (·.c) ∧ S.map (·.o) = L ∧ (∀ i x, S[i]? = some x → StepAt D nt ops x.o (apps (fun j => Nat.blt j i) 0 S s) x.out x.c) ∧ s' = apps (fun _ => true) 0 S s
  | [], s, kn, acc, s', l, hK, h => by
    simp only [evOps, Tr.run, Option.some.injEq, Prod.mk.injEq] at h
    exact ⟨[], by simp [h.2], rfl, fun i x hx => by simp at hx, h.1.symm⟩
  | o :: r, s, kn, acc, s', l, hK, h => by
    simp only [evOps, Tr.run_bind, Option.bind_eq_some_iff] at h
    obtain ⟨⟨s1, c, kn'⟩, h1, h⟩ := h
    obtain ⟨out, hst, rfl, hK'⟩ := evOp_run hK h1
    obtain ⟨S, e1, e2, e3, e4⟩ := evOps_run r _ kn' (c :: acc) s' l hK' h
    refine ⟨⟨o, out, c⟩ :: S, by simp [e1], by simp [e2], fun i x hx => ?_, ?_⟩
    · cases i with
      | zero =>
        simp only [List.getElem?_cons_zero, Option.some.injEq] at hx
        subst hx
        rw [apps_none _ _ _ (fun j => by cases hb : Nat.blt (0 + j) 0; rfl; rw [Nat.blt_eq] at hb; omega)]
        exact hst
      | succ i =>
        simp only [List.getElem?_cons_succ] at hx
        have := e3 i x hx
        simp only [apps, show Nat.blt 0 (i + 1) = true from by rw [Nat.blt_eq]; omega, cond_true]
        rw [apps_shift]
        have e : (fun j => Nat.blt (j + 1) (i + 1)) = fun j => Nat.blt j i := by
          funext j
          rw [Bool.eq_iff_iff, Nat.blt_eq, Nat.blt_eq]; omega
        rw [e]; exact this
    · simp only [apps, cond_true]
      rw [apps_shift, e4]
end Go.Proofs.YtpbklojdmkpkcaaDoor
/- The evaluator: a region in whatever order. -/
namespace Go.Proofs.YtpbklojdmkpkcaaDoor
open Go Go.RowKit
set_option linter.unusedVariables false
set_option linter.unusedSimpArgs false

/-- Of operation i, each bit stands for one that it waits for. -/
def Bits (A : Array Nat) (i : Nat) (o : Oper) : Prop := ∀ j, (A.getD i 0).testBit j = true → ∃ e ∈ o.after, Region.binds .any e = true ∧ (j = e.on ∨ (e.on < i ∧ (A.getD e.on 0).testBit j = true))
def bitsOf (A : Array Nat) (o : Oper) : Nat := o.after.foldl (fun s e => if Region.binds .any e then s ||| 2 ^ e.on ||| A.getD e.on 0 else s) 0
theorem bits_list (A : Array Nat) (j : Nat) : ∀ (l : List Edge) (s : Nat), (l.foldl (fun s e => if Region.binds .any e then s ||| 2 ^ e.on ||| A.getD e.on 0 else s) s).testBit j = true →
    s.testBit j = true ∨ ∃ e ∈ l, Region.binds .any e = true ∧ (j = e.on ∨ (A.getD e.on 0).testBit j = true)
  | [], s, h => .inl h
  | e :: r, s, h => by
    simp only [List.foldl_cons] at h
    rcases bits_list A j r _ h with h | ⟨e', he', h⟩
    · cases hb : Region.binds .any e
      · rw [hb] at h; exact .inl h
      · rw [hb] at h
        simp only [if_true, Nat.testBit_or, Bool.or_eq_true, Nat.testBit_two_pow] at h
        rcases h with (h | h) | h
        · exact .inl h
        · exact .inr ⟨e, by simp, hb, .inl (by have := h; simp at this; exact this.symm)⟩
        · exact .inr ⟨e, by simp, hb, .inr h⟩
    · exact .inr ⟨e', by simp [he'], h⟩
theorem before_aux : ∀ (L pre : List Oper) (A : Array Nat), A.size = pre.length → (∀ i o, pre[i]? = some o → Bits A i o) →
    ∀ i o, (pre ++ L)[i]? = some o → Bits (L.foldl (fun A o => A.push (bitsOf A o)) A) i o
  | [], pre, A, _, h, i, o, hi => h i o (by simpa using hi)
  | x :: r, pre, A, hs, h, i, o, hi => by
    simp only [List.foldl_cons]
    refine before_aux r (pre ++ [x]) _ (by simp [hs]) ?_ i o (by simpa using hi)
    intro k y hk j hj
    have hlt : ∀ m, m < A.size → (A.push (bitsOf A x)).getD m 0 = A.getD m 0 := by
      intro m hm
      simp only [Array.getD_eq_getD_getElem?, Array.getElem?_push, if_neg (Nat.ne_of_lt hm)]
    rw [List.getElem?_append] at hk
    split at hk
    · rename_i hkl
      rw [hlt k (by omega)] at hj
      obtain ⟨e, he, hb, hor⟩ := h k y hk j hj
      refine ⟨e, he, hb, ?_⟩
      rcases hor with hor | ⟨h1, h2⟩
      · exact .inl hor
      · exact .inr ⟨h1, by rw [hlt _ (by omega)]; exact h2⟩
    · rename_i hkl
      have hk0 : k = pre.length ∧ x = y := by
        have : k - pre.length = 0 := by
          rcases Nat.eq_zero_or_pos (k - pre.length) with h0 | h0
          · exact h0
          · rw [List.getElem?_eq_none (by simp; omega)] at hk; cases hk
        rw [this] at hk
        simp at hk
        exact ⟨by omega, hk⟩
      obtain ⟨rfl, rfl⟩ := hk0
      rw [← hs] at hj ⊢
      have e0 : (A.push (bitsOf A x)).getD A.size 0 = bitsOf A x := by simp [Array.getD_eq_getD_getElem?]
      rw [e0] at hj
      unfold bitsOf at hj
      rw [← Array.foldl_toList] at hj
      rcases bits_list A j _ _ hj with h0 | ⟨e, he, hb, hor⟩
      · simp at h0
      · refine ⟨e, Array.mem_toList_iff.1 he, hb, ?_⟩
        rcases hor with hor | hor
        · exact .inl hor
        · have hlt2 : e.on < A.size := by
            rcases Nat.lt_or_ge e.on A.size with h' | h'
            · exact h'
            · simp [Array.getD_eq_getD_getElem?, Array.getElem?_eq_none h'] at hor
          exact .inr ⟨hlt2, by rw [hlt _ hlt2]; exact hor⟩
theorem before_bits (ops : Array Oper) (i : Nat) (o : Oper) (h : ops[i]? = some o) : Bits (Region.before ops) i o := by
  have e : Region.before ops = ops.toList.foldl (fun A o => A.push (bitsOf A o)) #[] := by
    unfold Region.before bitsOf
    rw [← Array.foldl_toList]
  rw [e]
  exact before_aux ops.toList [] #[] rfl (fun i o hi => by simp at hi) i o (by simpa using h)
theorem ancs_getD (ops : Array Oper) (i : Nat) : (ancs ops).getD i 0 = (Region.before ops).getD i 0 := by
  unfold ancs
  rw [Array.getD_eq_getD_getElem?, List.getD_eq_getElem?_getD, Array.getElem?_toList]
theorem okTrace_get {A : List Nat} : ∀ (r before : List Rec), okTrace A before r = true → ∀ (i j : Nat) (x y : Rec), i < j → before.length ≤ j → (before ++ r)[i]? = some x → (before ++ r)[j]? = some y → clash x y = true →
    (A.getD j 0).testBit i = true
  | [], before, _, i, j, x, y, hij, hj, hx, hy, _ => by rw [List.append_nil, List.getElem?_eq_none hj] at hy; cases hy
  | c :: r, before, h, i, j, x, y, hij, hj, hx, hy, hc => by
    simp only [okTrace, Bool.and_eq_true, List.all_eq_true] at h
    rcases Nat.eq_or_lt_of_le hj with hj | hj
    · have hyc : y = c := by
        rw [← hj, List.getElem?_append_right (Nat.le_refl _)] at hy
        simpa using hy.symm
      have hxb : before[i]? = some x := by rw [List.getElem?_append_left (by omega)] at hx; exact hx
      have := h.1 (x, i) (by
        rw [List.mem_iff_getElem?]
        exact ⟨i, by simp [List.getElem?_zipIdx, hxb]⟩)
      simp only [Bool.or_eq_true, Bool.not_eq_true'] at this
      rw [← hj]
      refine this.resolve_left ?_
      rw [← hyc, hc]; decide
    · exact okTrace_get r (before ++ [c]) h.2 i j x y hij (by simp; omega) (by simpa using hx) (by simpa using hy) hc
theorem backOk_get : ∀ (L : List Oper) (i k : Nat) (o : Oper), backOk i L = true → L[k]? = some o → ∀ e ∈ o.after, Region.binds .any e = true → e.on < i + k
  | [], _, _, _, _, h => by simp at h
  | x :: r, i, 0, o, hb, h => by
    simp only [List.getElem?_cons_zero, Option.some.injEq] at h
    subst h
    intro e he hbi
    simp only [backOk, Bool.and_eq_true, List.all_eq_true] at hb
    have := hb.1 e (Array.mem_toList_iff.2 he)
    rw [hbi, Bool.not_true, Bool.false_or, Nat.blt_eq] at this
    exact this
  | x :: r, i, k + 1, o, hb, h => by
    intro e he hbi
    simp only [backOk, Bool.and_eq_true] at hb
    have := backOk_get r (i + 1) k o hb.2 (by simpa using h) e he hbi
    omega

theorem blt_false (i j : Nat) (h : ¬ i < j) : Nat.blt i j = false := by
  cases hb : Nat.blt i j
  · rfl
  · rw [Nat.blt_eq] at hb; exact absurd hb h
theorem blt_true (i j : Nat) (h : i < j) : Nat.blt i j = true := by rw [Nat.blt_eq]; exact h

/-- What a run in the text's order tells of each of its steps. -/
structure Run (D : Doer) (nt : Nat) (ops : Array Oper) (s0 : St) (S : List Stp) : Prop where
  opl : S.map (·.o) = ops.toList
  at_ : ∀ i x, S[i]? = some x → StepAt D nt ops x.o (apps (fun j => Nat.blt j i) 0 S s0) x.out x.c
section
variable {D : Doer} {nt : Nat} {ops : Array Oper} {s0 : St} {S : List Stp}
theorem StepAt.ok {o : Oper} {s : St} {out : Out} {c : Rec} (h : StepAt D nt ops o s out c) : ∃ R, okOut nt s R o.dst out = true ∧ c = recOf ops o R out := by
  cases h with
  | did g vals hv hr hk hc => exact ⟨_, hk, hc⟩
  | skipped g ho hk hc => exact ⟨_, hk, hc⟩
theorem StepAt.tw {o : Oper} {s : St} {out : Out} {c : Rec} (h : StepAt D nt ops o s out c) : c.tw = o.dst.toList := by obtain ⟨R, _, rfl⟩ := h.ok; rfl
theorem StepAt.nw {o : Oper} {s : St} {out : Out} {c : Rec} (h : StepAt D nt ops o s out c) : c.nw = out.news.map (·.1) := by obtain ⟨R, _, rfl⟩ := h.ok; rfl
theorem StepAt.wr {o : Oper} {s : St} {out : Out} {c : Rec} (h : StepAt D nt ops o s out c) : c.wr = out.ups.map (·.1) := by obtain ⟨R, _, rfl⟩ := h.ok; rfl
theorem StepAt.wr_rd {o : Oper} {s : St} {out : Out} {c : Rec} (h : StepAt D nt ops o s out c) : ∀ b ∈ c.wr, b ∈ c.rd ∧ (s.mem b).isSome = true := by
  obtain ⟨R, hk, rfl⟩ := h.ok
  rw [okOut_iff] at hk
  intro b hb
  obtain ⟨u, hu, rfl⟩ := List.mem_map.1 hb
  obtain ⟨h1, h2, _⟩ := hk.2.2.2 u hu
  exact ⟨h2, h1⟩
theorem StepAt.fresh {o : Oper} {s : St} {out : Out} {c : Rec} (h : StepAt D nt ops o s out c) : ∀ b ∈ c.nw, s.mem b = none := by
  obtain ⟨R, hk, rfl⟩ := h.ok
  rw [okOut_iff] at hk
  intro b hb
  simp only [recOf] at hb
  obtain ⟨u, hu, rfl⟩ := List.mem_map.1 hb
  exact (hk.2.1.1 u hu).1
theorem StepAt.named {o : Oper} {s : St} {out : Out} {c : Rec} (h : StepAt D nt ops o s out c) : ∀ n ∈ c.ment, (s.mem n).isSome = true ∨ n ∈ c.nw := by
  obtain ⟨R, hk, rfl⟩ := h.ok
  rw [okOut_iff] at hk
  intro n hn
  simp only [recOf] at hn ⊢
  rcases List.mem_append.1 hn with hn | hn
  · exact hk.2.2.1 n hn
  · obtain ⟨u, hu, hn⟩ := List.mem_flatMap.1 hn
    rcases List.mem_append.1 hu with hu | hu
    · exact (hk.2.1.1 u hu).2 n hn
    · exact (hk.2.2.2 u hu).2.2 n hn
theorem app_dom {s : St} {d : Option Tmp} {o : Out} {n : Nat} : ((s.app d o).mem n).isSome = true ↔ (s.mem n).isSome = true ∨ n ∈ o.all.map (·.1) := by
  show (upds s.mem (o.news ++ o.ups) n).isSome = true ↔ _
  rw [upds_some, Bool.or_eq_true, has_iff]; rfl
theorem apps_dom {l : Nat → Bool} {n : Nat} : ∀ (L : List Stp) (i : Nat) (s : St), ((apps l i L s).mem n).isSome = true ↔
    (s.mem n).isSome = true ∨ ∃ j x, L[j]? = some x ∧ l (i + j) = true ∧ n ∈ x.out.all.map (·.1)
  | [], i, s => by simp [apps]
  | x :: r, i, s => by
    simp only [apps]
    rw [apps_dom r (i + 1)]
    constructor
    · rintro (h | ⟨j, y, h1, h2, h3⟩)
      · cases hl : l i
        · rw [hl] at h; exact .inl h
        · rw [hl] at h
          rcases app_dom.1 h with h | h
          · exact .inl h
          · exact .inr ⟨0, x, rfl, by simpa using hl, h⟩
      · exact .inr ⟨j + 1, y, h1, by rwa [show i + (j + 1) = i + 1 + j from by omega], h3⟩
    · rintro (h | ⟨j, y, h1, h2, h3⟩)
      · left
        cases hl : l i
        · exact h
        · exact app_dom.2 (.inl h)
      · cases j with
        | zero =>
          simp only [List.getElem?_cons_zero, Option.some.injEq] at h1
          subst h1
          left
          rw [show l i = true from by simpa using h2]
          exact app_dom.2 (.inr h3)
        | succ j => exact .inr ⟨j, y, by simpa using h1, by rwa [show i + (j + 1) = i + 1 + j from by omega] at h2, h3⟩
theorem all_mem {o : Out} {n : Nat} : n ∈ o.all.map (·.1) ↔ n ∈ o.news.map (·.1) ∨ n ∈ o.ups.map (·.1) := by unfold Out.all; rw [List.map_append, List.mem_append]
/-- A name is there ahead of step i: it was there, or a step ahead made it. -/
theorem Run.dom (H : Run D nt ops s0 S) {n : Nat} : ∀ i, ((apps (fun j => Nat.blt j i) 0 S s0).mem n).isSome = true → (s0.mem n).isSome = true ∨ ∃ j x, j < i ∧ S[j]? = some x ∧ n ∈ x.c.nw := by
  intro i
  induction i using Nat.strongRecOn with
  | _ i ih =>
    intro h
    rcases (apps_dom S 0 s0).1 h with h | ⟨j, x, h1, h2, h3⟩
    · exact .inl h
    · simp only [Nat.zero_add, Nat.blt_eq] at h2
      have hx := H.at_ j x h1
      rcases all_mem.1 h3 with h3 | h3
      · exact .inr ⟨j, x, h2, h1, by rw [hx.nw]; exact h3⟩
      · rcases ih j h2 (hx.wr_rd n (by rw [hx.wr]; exact h3)).2 with h4 | ⟨k, y, h5, h6, h7⟩
        · exact .inl h4
        · exact .inr ⟨k, y, by omega, h6, h7⟩
theorem Run.mono (H : Run D nt ops s0 S) {n : Nat} {i k : Nat} (hik : i ≤ k) (h : ((apps (fun j => Nat.blt j i) 0 S s0).mem n).isSome = true) : ((apps (fun j => Nat.blt j k) 0 S s0).mem n).isSome = true := by
  rcases (apps_dom S 0 s0).1 h with h | ⟨j, x, h1, h2, h3⟩
  · exact (apps_dom S 0 s0).2 (.inl h)
  · simp only [Nat.zero_add, Nat.blt_eq] at h2
    exact (apps_dom S 0 s0).2 (.inr ⟨j, x, h1, by simp only [Nat.zero_add]; exact blt_true _ _ (by omega), h3⟩)
theorem Run.made (H : Run D nt ops s0 S) {n i k : Nat} {x : Stp} (hik : i < k) (hx : S[i]? = some x) (hn : n ∈ x.out.all.map (·.1)) : ((apps (fun j => Nat.blt j k) 0 S s0).mem n).isSome = true :=
  (apps_dom S 0 s0).2 (.inr ⟨i, x, hx, by simp only [Nat.zero_add]; exact blt_true _ _ hik, hn⟩)
theorem isSome_none {α : Type} {x : Option α} (h : x = none) (h' : x.isSome = true) : False := by rw [h] at h'; cases h'
theorem Run.get (H : Run D nt ops s0 S) {i : Nat} {o : Oper} (h : ops[i]? = some o) : ∃ x, S[i]? = some x ∧ x.o = o := by
  have : (S.map (·.o))[i]? = some o := by rw [H.opl, Array.getElem?_toList]; exact h
  rw [List.getElem?_map, Option.map_eq_some_iff] at this
  exact this
theorem Run.op (H : Run D nt ops s0 S) {i : Nat} {x : Stp} (h : S[i]? = some x) : ops[i]? = some x.o := by
  have : (S.map (·.o))[i]? = some x.o := by rw [List.getElem?_map, h]; rfl
  rw [H.opl, Array.getElem?_toList] at this
  exact this

/-- Those that have come up: with each all that it waits for. -/
def Shut' (ops : Array Oper) (l : Nat → Bool) : Prop := ∀ i o, ops[i]? = some o → l i = true → ∀ e ∈ o.after, Region.binds .any e = true → l e.on = true
theorem Shut'.anc {l : Nat → Bool} (h : Shut' ops l) {j : Nat} : ∀ i o, ops[i]? = some o → (∀ e ∈ o.after, Region.binds .any e = true → l e.on = true) → ((Region.before ops).getD i 0).testBit j = true → l j = true := by
  intro i
  induction i using Nat.strongRecOn with
  | _ i ih =>
    intro o ho hl hb
    obtain ⟨e, he, hbi, hor⟩ := before_bits ops i o ho j hb
    have hle := hl e he hbi
    rcases hor with rfl | ⟨h1, h2⟩
    · exact hle
    · cases ho' : ops[e.on]? with
      | none =>
        have hlt := (Array.getElem?_eq_some_iff.1 ho).1
        rw [Array.getElem?_eq_none_iff] at ho'
        omega
      | some o' => exact ih e.on h1 o' ho' (h e.on o' ho' hle) h2
/-- Whoever comes up next does what it did in the text's order, and comes to what it came to. -/
theorem next_ok (hD : D.Local) (H : Run D nt ops s0 S) (hT : okTrace (ancs ops) [] (S.map (·.c)) = true) {l : Nat → Bool} (hl : Shut' ops l) {i : Nat} {x : Stp} (hx : S[i]? = some x) (hi : l i = false)
    (hw : ∀ e ∈ x.o.after, Region.binds .any e = true → l e.on = true) :
    StepAt D nt ops x.o (apps l 0 S s0) x.out x.c ∧ apps (fun n => l n || Nat.beq n i) 0 S s0 = (apps l 0 S s0).app x.o.dst x.out := by
  have hxo := H.op hx
  have hst := H.at_ i x hx
  have clash_lt : ∀ j y, S[j]? = some y → j < i → clash y.c x.c = true → l j = true := by
    intro j y hy hj hc
    have := okTrace_get (S.map (·.c)) [] hT j i y.c x.c hj (Nat.zero_le _) (by simp [hy]) (by simp [hx]) hc
    rw [ancs_getD] at this
    exact hl.anc i x.o hxo hw this
  have clash_gt : ∀ j y, S[j]? = some y → i < j → clash x.c y.c = true → l j = false := by
    intro j y hy hj hc
    have := okTrace_get (S.map (·.c)) [] hT i j x.c y.c hj (Nat.zero_le _) (by simp [hx]) (by simp [hy]) hc
    rw [ancs_getD] at this
    cases hlj : l j
    · rfl
    · have := hl.anc j y.o (H.op hy) (hl j y.o (H.op hy) hlj) this
      rw [hi] at this; cases this
  have ne_of : ∀ j y, S[j]? = some y → l j = true → j ≠ i := fun j y hy hlj e => by subst e; rw [hi] at hlj; cases hlj
  -- what both name as theirs
  have apart : ∀ j y, S[j]? = some y → i < j → l j = true → ∀ n, n ∈ x.out.all.map (·.1) → n ∉ y.out.all.map (·.1) := by
    intro j y hy hij hlj n hn hn'
    have hsy := H.at_ j y hy
    have hnc : clash x.c y.c ≠ true := fun hc => by rw [clash_gt j y hy hij hc] at hlj; cases hlj
    rcases all_mem.1 hn' with hn' | hn'
    · exact isSome_none (hsy.fresh n (by rw [hsy.nw]; exact hn')) (H.made hij hx hn)
    · rcases all_mem.1 hn with hn | hn
      · refine hnc ?_
        have : meet x.c.nw y.c.rd = true := meet_iff.2 ⟨n, by rw [hst.nw]; exact hn, (hsy.wr_rd n (by rw [hsy.wr]; exact hn')).1⟩
        unfold clash; simp [this]
      · refine hnc ?_
        have : meet x.c.wr y.c.wr = true := meet_iff.2 ⟨n, by rw [hst.wr]; exact hn, by rw [hsy.wr]; exact hn'⟩
        unfold clash; simp [this]
  constructor
  · refine hst.congr hD ?_ ?_ ?_ ?_
    · intro t ht
      refine apps_tmps S 0 s0 s0 rfl (fun j y hy hty => ?_)
      have hsy := H.at_ j y hy
      simp only [Nat.zero_add]
      rcases Nat.lt_trichotomy j i with hji | rfl | hji
      · rw [blt_true _ _ hji]
        refine clash_lt j y hy hji ?_
        have : meet y.c.tw x.c.tr = true := meet_iff.2 ⟨t, by rw [hsy.tw]; exact hty, ht⟩
        unfold clash; simp [this]
      · rw [hi, blt_false _ _ (by omega)]
      · rw [blt_false _ _ (by omega)]
        refine clash_gt j y hy hji ?_
        have : meet y.c.tw x.c.tr = true := meet_iff.2 ⟨t, by rw [hsy.tw]; exact hty, ht⟩
        unfold clash; simp [this]
    · intro b hb
      refine apps_mem S 0 s0 s0 rfl (fun j y hy hby => ?_)
      have hsy := H.at_ j y hy
      simp only [Nat.zero_add]
      have hor : meet y.c.wr x.c.rd = true ∨ meet y.c.nw x.c.rd = true := by
        rcases all_mem.1 hby with h | h
        · exact .inr (meet_iff.2 ⟨b, by rw [hsy.nw]; exact h, hb⟩)
        · exact .inl (meet_iff.2 ⟨b, by rw [hsy.wr]; exact h, hb⟩)
      rcases Nat.lt_trichotomy j i with hji | rfl | hji
      · rw [blt_true _ _ hji]
        refine clash_lt j y hy hji ?_
        unfold clash; rcases hor with h | h <;> simp [h]
      · rw [hi, blt_false _ _ (by omega)]
      · rw [blt_false _ _ (by omega)]
        refine clash_gt j y hy hji ?_
        unfold clash; rcases hor with h | h <;> simp [h]
    · intro b hb
      have hf := hst.fresh b hb
      cases hm : (apps l 0 S s0).mem b with
      | none => rfl
      | some k =>
        exfalso
        rcases (apps_dom S 0 s0).1 (by rw [hm]; rfl) with h | ⟨j, y, hy, hlj, hn⟩
        · exact isSome_none hf ((apps_dom S 0 s0).2 (.inl h))
        · simp only [Nat.zero_add] at hlj
          rcases Nat.lt_trichotomy j i with hji | rfl | hji
          · exact isSome_none hf (H.made hji hy hn)
          · rw [hi] at hlj; cases hlj
          · exact apart j y hy hji hlj b (all_mem.2 (.inl (by rw [← hst.nw]; exact hb))) hn
    · intro n hn
      rcases hst.named n hn with h | h
      · left
        rcases H.dom i h with h | ⟨j, y, hji, hy, hny⟩
        · exact (apps_dom S 0 s0).2 (.inl h)
        · refine (apps_dom S 0 s0).2 (.inr ⟨j, y, hy, ?_, all_mem.2 (.inl (by rw [← (H.at_ j y hy).nw]; exact hny))⟩)
          simp only [Nat.zero_add]
          refine clash_lt j y hy hji ?_
          have : meet y.c.nw x.c.ment = true := meet_iff.2 ⟨n, hny, hn⟩
          unfold clash; simp [this]
      · exact .inr h
  · have := apps_set (l := l) (k := i) (x := x) S 0 s0 hx (by simpa using hi) (fun j y hij hy hlj => by
      simp only [Nat.zero_add] at hlj
      refine ⟨fun t ht hty => ?_, apart j y hy hij hlj⟩
      have hc : clash x.c y.c = true := by
        have : meet x.c.tw y.c.tw = true := meet_iff.2 ⟨t, by rw [hst.tw]; exact ht, by rw [(H.at_ j y hy).tw]; exact hty⟩
        unfold clash; simp [this]
      rw [clash_gt j y hy hij hc] at hlj; cases hlj)
    simpa using this

variable {P : Program} {Q : Exit → Act → World → Prop} {R : St → Act → World → Prop}
/-- One operation, carried out. -/
def Execs (P : Program) (D : Doer) (nt : Nat) (ops : Array Oper) (Q : Exit → Act → World → Prop) (R : St → Act → World → Prop) : Prop :=
  ∀ i o s out c a w K, ops[i]? = some o → StepAt D nt ops o s out c → R s a w → (∀ a' w', R (s.app o.dst out) a' w' → K a' w') → wpOp P ops Q i K a w
theorem unlisted_set {n i : Nat} {listed : Array Bool} (hs : listed.size = n) (hi : i < n) (h : listed.getD i true = false) :
    ((List.range n).filter fun k => !(listed.setIfInBounds i true).getD k true).length + 1 ≤ ((List.range n).filter fun k => !listed.getD k true).length := by
  have h2 : (List.range n).filter (fun k => !(listed.setIfInBounds i true).getD k true) = ((List.range n).filter fun k => !listed.getD k true).filter fun k => k != i := by
    rw [List.filter_filter]
    refine List.filter_congr (fun k hk => ?_)
    by_cases hki : k = i
    · subst hki
      simp [hs, hi]
    · rw [getD_set_ne true (Ne.symm hki)]
      simp [hki]
  rw [h2]
  have hm : i ∈ (List.range n).filter fun k => !listed.getD k true := List.mem_filter.2 ⟨List.mem_range.2 hi, by rw [h]; rfl⟩
  have : (((List.range n).filter fun k => !listed.getD k true).filter fun k => k != i).length < ((List.range n).filter fun k => !listed.getD k true).length := by
    rw [List.length_filter_lt_length_iff_exists]
    exact ⟨i, hm, by simp⟩
  exact this
theorem order_any (hD : D.Local) (H : Run D nt ops s0 S) (hT : okTrace (ancs ops) [] (S.map (·.c)) = true) (hB : backOk 0 ops.toList = true) (hE : Execs P D nt ops Q R)
    (hQ : ∀ a w, R (apps (fun _ => true) 0 S s0) a w → Q .normal a w) : ∀ (fuel : Nat) (listed : Array Bool) (a : Act) (w : World), listed.size = ops.size → Shut' ops (fun n => listed.getD n false) →
      ((List.range ops.size).filter fun k => !listed.getD k true).length ≤ fuel → R (apps (fun n => listed.getD n false) 0 S s0) a w → wpAny P .any ops Q fuel listed a w := by
  have hlen : S.length = ops.size := by have := congrArg List.length H.opl; simpa using this
  have fin : ∀ (listed : Array Bool) (a : Act) (w : World), listed.size = ops.size → Region.ready .any ops listed = [] → R (apps (fun n => listed.getD n false) 0 S s0) a w → Q .normal a w := by
    intro listed a w hs hr hR
    have all : ∀ i, i < ops.size → listed.getD i false = true := by
      intro i
      induction i using Nat.strongRecOn with
      | _ i ih =>
        intro hi
        cases hl : listed.getD i false
        · exfalso
          have ho : ops[i]? = some ops[i] := Array.getElem?_eq_getElem hi
          have : i ∈ Region.ready .any ops listed := mem_ready.2 ⟨by
              rw [Array.getD_eq_getD_getElem?] at hl ⊢
              have hs' : i < listed.size := by omega
              rw [Array.getElem?_eq_getElem hs'] at hl ⊢
              simpa using hl, _, ho, fun e he hb => by
            have := backOk_get ops.toList 0 i _ hB (by rw [Array.getElem?_toList]; exact ho) e he hb
            exact ih e.on (by omega) (by omega)⟩
          rw [hr] at this; cases this
        · rfl
    refine hQ a w ?_
    rwa [apps_congr S 0 s0 (l := fun n => listed.getD n false) (l' := fun _ => true) (fun j _ hj => all j (by omega))] at hR
  intro fuel
  induction fuel with
  | zero =>
    intro listed a w hs hS hc hR
    have hr : Region.ready .any ops listed = [] := by
      rw [List.eq_nil_iff_forall_not_mem]
      intro i hi
      have h0 := (mem_ready.1 hi).1
      obtain ⟨_, o, ho, _⟩ := mem_ready.1 hi
      have hlt := (Array.getElem?_eq_some_iff.1 ho).1
      have hm : i ∈ (List.range ops.size).filter fun k => !listed.getD k true := List.mem_filter.2 ⟨List.mem_range.2 hlt, by rw [h0]; rfl⟩
      have : 0 < ((List.range ops.size).filter fun k => !listed.getD k true).length := List.length_pos_of_mem hm
      omega
    exact ⟨hr, fin listed a w hs hr hR⟩
  | succ fuel ih =>
    intro listed a w hs hS hc hR
    refine ⟨fun hr => fin listed a w hs hr hR, fun i hi => ?_⟩
    obtain ⟨h0, o, ho, hall⟩ := mem_ready.1 hi
    have hlt := (Array.getElem?_eq_some_iff.1 ho).1
    obtain ⟨x, hx, rfl⟩ := H.get ho
    have hf : listed.getD i false = false := by
      rw [Array.getD_eq_getD_getElem?] at h0 ⊢
      rw [Array.getElem?_eq_getElem (by omega)] at h0 ⊢
      simpa using h0
    obtain ⟨n1, n2⟩ := next_ok hD H hT hS hx hf hall
    refine hE i x.o _ x.out x.c a w _ ho n1 hR (fun a' w' hR' => ?_)
    have el : (fun n => listed.getD n false || Nat.beq n i) = fun n => (listed.setIfInBounds i true).getD n false := by
      funext n
      by_cases hn : n = i
      · subst hn
        rw [nb, Bool.or_true]
        simp [hs, hlt]
      · rw [getD_set_ne false (Ne.symm hn)]
        have : Nat.beq n i = false := by
          cases hb : Nat.beq n i
          · rfl
          · exact absurd (Nat.beq_eq ▸ hb) hn
        rw [this, Bool.or_false]
    rw [← n2, el] at hR'
    refine ih _ a' w' (by simp [hs]) ?_ (by have := unlisted_set hs hlt h0; omega) hR'
    rw [← el]
    intro k y hy hk e he hb
    simp only [Bool.or_eq_true] at hk ⊢
    rcases hk with hk | hk
    · exact .inl (hS k y hy hk e he hb)
    · have : k = i := Nat.beq_eq ▸ hk
      subst this
      rw [ho] at hy
      obtain rfl := Option.some.inj hy
      exact .inl (hall e he hb)
/-- In the text's order. -/
theorem order_text (H : Run D nt ops s0 S) (hE : Execs P D nt ops Q R) (hQ : ∀ a w, R (apps (fun _ => true) 0 S s0) a w → Q .normal a w) : ∀ (n k : Nat) (a : Act) (w : World), n + k = ops.size →
      R (apps (fun j => Nat.blt j k) 0 S s0) a w → wpOps P ops Q ((List.range n).map (k + ·)) a w := by
  have hlen : S.length = ops.size := by have := congrArg List.length H.opl; simpa using this
  intro n
  induction n with
  | zero =>
    intro k a w hk hR
    refine hQ a w ?_
    rwa [apps_congr S 0 s0 (l' := fun _ => true) (fun j _ hj => blt_true _ _ (by omega))] at hR
  | succ n ih =>
    intro k a w hk hR
    rw [List.range_succ_eq_map, List.map_cons, wpOps_cons, List.map_map]
    have ho : ops[k]? = some ops[k] := Array.getElem?_eq_getElem (by omega)
    obtain ⟨x, hx, hxo⟩ := H.get ho
    have hst := H.at_ k x hx
    refine hE (k + 0) x.o _ x.out x.c a w _ (by rw [hxo]; exact ho) hst hR (fun a' w' hR' => ?_)
    have e : ((fun x => k + x) ∘ Nat.succ) = fun x => (k + 1) + x := by funext y; simp only [Function.comp]; omega
    rw [e]
    refine ih (k + 1) a' w' (by omega) ?_
    have := apps_set (l := fun j => Nat.blt j k) (k := k) (x := x) S 0 s0 hx (by rw [Nat.zero_add]; exact blt_false _ _ (by omega)) (fun j y hij hy hlj => by
      simp only [Nat.zero_add, Nat.blt_eq] at hlj; omega)
    rw [← this] at hR'
    have el : (fun n => Nat.blt n k || Nat.beq n (0 + k)) = fun n => Nat.blt n (k + 1) := by
      funext m
      rw [Bool.eq_iff_iff, Bool.or_eq_true, Nat.blt_eq, Nat.blt_eq, Nat.zero_add, Nat.beq_eq]; omega
    rwa [el] at hR'
theorem region_ok (hm : P.follows .mixedOrders = true) (hD : D.Local) {id : Nat} {draw : Bool} {s : St} {Φ : St → Prop} (hE : Execs P D nt ops Q R)
    (hR1 : ∀ s a w n, R s a w → R s a { w with drawn := n }) {a : Act} {w : World} (hR : R s a w) (h : (evRegion D nt ops draw s).holds Φ) (hQ : ∀ s a w, Φ s → R s a w → Q .normal a w) :
    (Code.region id ops draw).wp P Q a w := by
  unfold evRegion at h
  rw [Tr.holds_bind] at h
  obtain ⟨⟨s', l⟩, hr, h⟩ := Tr.holds_noLoop h
  obtain ⟨S, e1, e2, e3, rfl⟩ := evOps_run _ _ _ _ _ _ (fun _ _ h => by cases h) hr
  have H : Run D nt ops s S := ⟨e2, e3⟩
  simp only [List.reverse_nil, List.nil_append] at e1
  subst e1
  cases draw
  · refine wp_region ?_
    have := order_text H hE (fun a w hR => hQ _ a w h hR) ops.size 0 a w (by omega) (by
      rw [apps_none (l := fun j => Nat.blt j 0) _ _ _ (fun j => blt_false _ _ (by omega))]; exact hR)
    simpa using this
  · refine wp_region_any hm ?_
    simp only [Bool.not_true, Bool.false_or] at h
    cases hk : (backOk 0 ops.toList && okTrace (ancs ops) [] (S.map (·.c)))
    · rw [hk] at h; exact h.elim
    · rw [hk] at h
      rw [Bool.and_eq_true] at hk
      refine order_any hD H hk.2 hk.1 hE (fun a w hR => hQ _ a w h hR) ops.size _ a _ (by simp) ?_ ?_ (hR1 _ _ _ _ ?_)
      · intro i o ho hi; simp [Array.getElem?_replicate] at hi; split at hi <;> simp at hi
      · refine Nat.le_trans (List.length_filter_le _ _) (by simp)
      · have e : (fun n => (Array.replicate ops.size false).getD n false) = fun _ => false := by
          funext n; simp [Array.getElem?_replicate]; split <;> rfl
        rw [e, apps_none _ _ _ (fun _ => rfl)]; exact hR
end
end Go.Proofs.YtpbklojdmkpkcaaDoor
/- The evaluator: how what it tells stands to the model's memory; one operation, carried out. -/
namespace Go.Proofs.YtpbklojdmkpkcaaDoor
open Go Go.RowKit
set_option linter.unusedVariables false
set_option linter.unusedSimpArgs false

def Fx.cells (x : Fx) : List Value := [.int .i64 x.h, .int .u64 x.l]
def Vc.cells (x : Vc) : List Value := [.int .i64 x.X.h, .int .u64 x.X.l, .int .i64 x.Y.h, .int .u64 x.Y.l]
def ET.cells : (t : ET) → t.α → List Value
  | .int, (x : Int) => [.int .i64 x]
  | .u8, (x : Int) => [.int .u8 x]
  | .u64, (x : Int) => [.int .u64 x]
  | .fix, (x : Fx) => x.cells
  | .vec, (x : Vc) => x.cells
  | .body, (x : Body) => [.int .i64 x.Mass.h, .int .u64 x.Mass.l, .int .i64 x.Radius.h, .int .u64 x.Radius.l, .int .i64 x.X.X.h, .int .u64 x.X.X.l, .int .i64 x.X.Y.h, .int .u64 x.X.Y.l, .int .i64 x.P.X.h, .int .u64 x.P.X.l, .int .i64 x.P.Y.h, .int .u64 x.P.Y.l,
      .int .i64 x.Fuel.h, .int .u64 x.Fuel.l, .int .i64 x.Rate.h, .int .u64 x.Rate.l, .int .i64 x.Exhaust.h, .int .u64 x.Exhaust.l, .int .i64 x.Throttle, .int .i64 x.Heading]
  | .tether, (x : Tether) => [.int .i64 x.A, .int .i64 x.B, .int .i64 x.Len.h, .int .u64 x.Len.l, .int .i64 x.Limit.h, .int .u64 x.Limit.l]
  | .rail, (x : Rail) => [.int .i64 x.Parent, .int .i64 x.Long.h, .int .u64 x.Long.l, .int .i64 x.Ecc.h, .int .u64 x.Ecc.l, .int .i64 x.Turn, .int .i64 x.Phase, .int .i64 x.Period, .int .i64 x.Sphere.h, .int .u64 x.Sphere.l]
  | .event, (x : Event) => [.int .i64 x.Tick, .int .i64 x.Kind, .int .i64 x.A, .int .i64 x.B]
  | .keyed, (x : Keyed) => [.int .u64 x.Key, .int .i64 x.Id]
  | .node, (x : Node) => [.int .i64 x.Level, .int .u64 x.Key, .int .i64 x.From, .int .i64 x.To, .int .i64 x.K0, .int .i64 x.K1, .int .i64 x.K2, .int .i64 x.K3]
  | .cell, (x : Cell) => [.int .i64 x.Mass.h, .int .u64 x.Mass.l, .int .i64 x.At.X.h, .int .u64 x.At.X.l, .int .i64 x.At.Y.h, .int .u64 x.At.Y.l, .int .i64 x.Width.h, .int .u64 x.Width.l]
  | .cmd, (x : Cmd) => [.int .i64 x.Kind, .int .i64 x.N, .int .i64 x.A, .int .i64 x.B, .int .i64 x.F.h, .int .u64 x.F.l]
  | .pair, (x : Pair) => [.int .i64 x.a, .int .i64 x.b]
def ET.size : ET → Nat
  | .int | .u8 | .u64 => 1
  | .fix | .keyed | .pair => 2
  | .vec | .event => 4
  | .body => 20
  | .tether | .cmd => 6
  | .rail => 10
  | .node | .cell => 8
theorem ET.cells_length : ∀ (t : ET) (x : t.α), (t.cells x).length = t.size
  | .int, _ | .u8, _ | .u64, _ | .fix, _ | .vec, _ | .body, _ | .tether, _ | .rail, _ | .event, _ | .keyed, _ | .node, _ | .cell, _ | .cmd, _ | .pair, _ => rfl
theorem ET.size_pos (t : ET) : 0 < t.size := by cases t <;> decide

/-- A row of elements under a name. -/
def RowOk (tid : ET → TypeId) (B : Nat) (E : Env) (w : World) (b : Nat) (own : Bool) (t : ET) (l : List t.α) : Prop :=
  match E.at_ b with
  | none => l = []
  | some (k, f) => l.length = E.len b ∧ l.length ≤ E.cap b ∧ (∀ j, j < l.length * t.size → w.cell? ⟨k, f + j, none⟩ = (l.flatMap t.cells)[j]?) ∧ (own = false → k < B) ∧
      (own = true → B ≤ k ∧ f = 0 ∧ E.cap b ≤ maxLen ∧ ∃ arr, w.heap[k]? = some (.cells arr (tid t) (0, 0)) ∧ arr.size = E.cap b * t.size)
def BlkOk (tid : ET → TypeId) (B : Nat) (E : Env) (w : World) (b : Nat) : Blk → Prop
  | .cells cs ty => ∃ k, E.at_ b = some (k, 0) ∧ B ≤ k ∧ w.heap[k]? = some (.cells (PV.embs E cs).toArray ty (0, 0))
  | .row own t l => RowOk tid B E w b own t l
  | .gone => True
structure MemRel (tid : ET → TypeId) (B : Nat) (E : Env) (m : Nat → Option Blk) (w : World) : Prop where
  blk : ∀ b k, m b = some k → BlkOk tid B E w b k
  ok : ∀ b k, m b = some k → ∀ n ∈ k.names, (m n).isSome = true
  apart : ∀ b c k k' i j f g, b ≠ c → m b = some k → m c = some k' → k.own = true → k'.own = true → E.at_ b = some (i, f) → E.at_ c = some (j, g) → i ≠ j
/-- What holds of a world's blocks below a number. -/
structure WInv where
  p : Nat → World → Prop
  below : ∀ B w w', p B w → Below B w w' → p B w'
  mono : ∀ B B' w, p B w → B ≤ B' → p B' w
def Agree (E E' : Env) (m : Nat → Option Blk) : Prop := ∀ b, (m b).isSome = true → E'.at_ b = E.at_ b ∧ E'.len b = E.len b ∧ E'.cap b = E.cap b
/-- What of the world is as it was: all but what its own blocks were; an own block lies where one lay, or is new. -/
structure Fr (m : Nat → Option Blk) (E : Env) (w : World) (m' : Nat → Option Blk) (E' : Env) (w' : World) : Prop where
  keep : ∀ i, i < w.heap.size → (∀ b k f, m b = some k → k.own = true → E.at_ b ≠ some (i, f)) → w'.heap[i]? = w.heap[i]?
  orig : ∀ b k i f, m' b = some k → k.own = true → E'.at_ b = some (i, f) → i < w.heap.size → ∃ c k' g, m c = some k' ∧ k'.own = true ∧ E.at_ c = some (i, g)
theorem Fr.refl (m : Nat → Option Blk) (E : Env) (w : World) : Fr m E w m E w := ⟨fun _ _ _ => rfl, fun b k i f h1 h2 h3 _ => ⟨b, k, f, h1, h2, h3⟩⟩
theorem Fr.trans {m m' m2 : Nat → Option Blk} {E E' E2 : Env} {w w' w2 : World} (h : Fr m E w m' E' w') (hs : w.heap.size ≤ w'.heap.size) (h' : Fr m' E' w' m2 E2 w2) : Fr m E w m2 E2 w2 := by
  refine ⟨fun i hi hn => ?_, fun b k i f h1 h2 h3 hi => ?_⟩
  · rw [h'.keep i (by omega) fun b k f h1 h2 h3 => ?_, h.keep i hi hn]
    obtain ⟨c, k', g, a1, a2, a3⟩ := h.orig b k i f h1 h2 h3 hi
    exact hn c k' g a1 a2 a3
  · obtain ⟨c, k', g, a1, a2, a3⟩ := h'.orig b k i f h1 h2 h3 (by omega)
    exact h.orig c k' i g a1 a2 a3 hi
structure Rel (tid : ET → TypeId) (I : WInv) (B : Nat) (w0 : World) (nt : Nat) (E0 : Env) (m0 : Nat → Option Blk) (E : Env) (s : St) (a : Act) (w : World) : Prop where
  defers : a.defers = []
  size : a.tmps.size = nt
  tmps : ∀ t v, s.tmps t = some v → a.tmps.getD t undef = v.emb E
  lt : ∀ t v, s.tmps t = some v → t < nt
  tok : ∀ t v, s.tmps t = some v → ∀ n ∈ v.names, (s.mem n).isSome = true
  mem : MemRel tid B E s.mem w
  below : Below B w0 w
  base : B ≤ w0.heap.size
  inv : I.p B w
  from_ : Agree E0 E m0
  dom : ∀ b, (m0 b).isSome = true → (s.mem b).isSome = true
  frame : Fr m0 E0 w0 s.mem E w

theorem Agree.refl (E : Env) (m : Nat → Option Blk) : Agree E E m := fun _ _ => ⟨rfl, rfl, rfl⟩
mutual
theorem PV.emb_congr {E E' : Env} : ∀ v : PV, (∀ n ∈ v.names, E'.at_ n = E.at_ n ∧ E'.len n = E.len n ∧ E'.cap n = E.cap n) → v.emb E' = v.emb E
  | .raw _, _ => rfl
  | .ptr b _ _ _, h => by simp only [PV.emb, (h b (by simp [PV.names])).1]
  | .sl b _, h => by simp only [PV.emb, (h b (by simp [PV.names])).1, (h b (by simp [PV.names])).2.1, (h b (by simp [PV.names])).2.2]
  | .agg l, h => by simp only [PV.emb]; rw [PV.embs_congr l (fun n hn => h n hn)]
  | .tup l, h => by simp only [PV.emb]; rw [PV.embs_congr l (fun n hn => h n hn)]
  | .clo _ l, h => by simp only [PV.emb]; rw [PV.embs_congr l (fun n hn => h n hn)]
  | .isnil b _, h => by simp only [PV.emb, (h b (by simp [PV.names])).1]
theorem PV.embs_congr {E E' : Env} : ∀ l : List PV, (∀ n ∈ PV.namess l, E'.at_ n = E.at_ n ∧ E'.len n = E.len n ∧ E'.cap n = E.cap n) → PV.embs E' l = PV.embs E l
  | [], _ => rfl
  | v :: r, h => by
    simp only [PV.embs]
    rw [PV.emb_congr v (fun n hn => h n (by simp [PV.namess, hn])), PV.embs_congr r (fun n hn => h n (by simp [PV.namess, hn]))]
end
theorem embs_map (E : Env) : ∀ l : List PV, PV.embs E l = l.map (PV.emb E)
  | [] => rfl
  | v :: r => by simp [PV.embs, embs_map E r]
theorem namess_mem {n : Nat} : ∀ l : List PV, n ∈ PV.namess l ↔ ∃ v ∈ l, n ∈ v.names
  | [] => by simp [PV.namess]
  | v :: r => by simp [PV.namess, namess_mem r]
theorem PV.emb_agree {E E' : Env} {m : Nat → Option Blk} (hA : Agree E E' m) {v : PV} (h : ∀ n ∈ v.names, (m n).isSome = true) : v.emb E' = v.emb E :=
  PV.emb_congr v fun n hn => hA n (h n hn)

/-- How one operation is to be done: what the evaluator tells of it is so. -/
def DoerOk (P : Program) (tid : ET → TypeId) (I : WInv) (D : Doer) : Prop := ∀ (B : Nat) (o : Oper) (vals : List PV) (m : Nat → Option Blk) (out : Out) (E : Env) (a : Act) (w : World) (K : Act → World → Prop) (Q : Exit → Act → World → Prop),
  o.op.operands.toList.map a.eval = vals.map (PV.emb E) → (∀ v ∈ vals, ∀ n ∈ v.names, (m n).isSome = true) → MemRel tid B E m w → B ≤ w.heap.size → I.p B w →
  (D.core o vals (restr m (D.foot o vals m))).run = some out → (∀ b ∈ out.news.map (·.1), m b = none) → (∀ u ∈ out.ups, (m u.1).isSome = true) → (∀ n ∈ out.put.names ++ (out.news ++ out.ups).flatMap (·.2.names), (m n).isSome = true ∨ n ∈ out.news.map (·.1)) →
  (out.news.map (·.1)).Nodup →
  (∀ E' w', Agree E E' m → MemRel tid B E' (upds m (out.news ++ out.ups)) w' → Below B w w' → Fr m E w (upds m (out.news ++ out.ups)) E' w' → K (a.put o.dst (out.put.emb E')) w') → o.wp P a w K Q

theorem getD_put {a : Act} {d : Option Tmp} {v : Value} {t : Nat} (h : t ∉ d.toList) : (a.put d v).tmps.getD t undef = a.tmps.getD t undef := by
  cases d with
  | none => rfl
  | some d =>
    have : d ≠ t := by simpa using fun e => h (by simp [e])
    simp [Act.put, Array.getElem?_setIfInBounds_ne this]
theorem getD_put_self {a : Act} {d : Tmp} {v : Value} (h : d < a.tmps.size) : (a.put (some d) v).tmps.getD d undef = v := by
  simp [Act.put, h]
theorem put_size (a : Act) (d : Option Tmp) (v : Value) : (a.put d v).tmps.size = a.tmps.size := by cases d <;> simp [Act.put]
theorem put_defers (a : Act) (d : Option Tmp) (v : Value) : (a.put d v).defers = a.defers := by cases d <;> rfl

section
variable {P : Program} {tid : ET → TypeId} {I : WInv} {B : Nat} {w0 : World} {nt : Nat} {E0 : Env} {m0 : Nat → Option Blk} {D : Doer} {ops : Array Oper} {Q : Exit → Act → World → Prop}
theorem Rel.app {E E' : Env} {s : St} {a : Act} {w w' : World} {R : List Nat} {o : Oper} {out : Out} (h : Rel tid I B w0 nt E0 m0 E s a w) (hk : okOut nt s R o.dst out = true) (hA : Agree E E' s.mem)
    (hM : MemRel tid B E' (upds s.mem (out.news ++ out.ups)) w') (hB : Below B w w') (hF : Fr s.mem E w (upds s.mem (out.news ++ out.ups)) E' w') : Rel tid I B w0 nt E0 m0 E' (s.app o.dst out) (a.put o.dst (out.put.emb E')) w' := by
  rw [okOut_iff] at hk
  obtain ⟨k1, k2, k3, k4⟩ := hk
  have dom : ∀ n, (s.mem n).isSome = true → ((s.app o.dst out).mem n).isSome = true := fun n hn => app_dom.2 (.inl hn)
  have cases_ : ∀ t v, (s.app o.dst out).tmps t = some v → (t ∈ o.dst.toList ∧ v = out.put) ∨ (t ∉ o.dst.toList ∧ s.tmps t = some v) := by
    intro t v hv
    by_cases ht : t ∈ o.dst.toList
    · left
      refine ⟨ht, ?_⟩
      cases hd : o.dst with
      | none => rw [hd] at ht; simp at ht
      | some d =>
        rw [hd] at ht hv
        simp at ht
        subst ht
        rw [show (s.app (some t) out).tmps = upd s.tmps t out.put from rfl, upd_same] at hv
        exact (Option.some.inj hv).symm
    · rw [app_tmps_ne ht] at hv
      exact .inr ⟨ht, hv⟩
  refine ⟨by rw [put_defers]; exact h.defers, by rw [put_size]; exact h.size, fun t v hv => ?_, fun t v hv => ?_, fun t v hv n hn => ?_, hM, h.below.trans hB, h.base, I.below _ _ _ h.inv hB, fun b hb => ?_, fun b hb => dom b (h.dom b hb), h.frame.trans h.below.size hF⟩
  · rcases cases_ t v hv with ⟨ht, rfl⟩ | ⟨ht, hv⟩
    · cases hd : o.dst with
      | none => rw [hd] at ht; simp at ht
      | some d =>
        rw [hd] at ht k1
        simp at ht
        subst ht
        exact getD_put_self (by rw [h.size]; exact k1 t (by simp))
    · rw [getD_put ht, h.tmps t v hv, PV.emb_agree hA (h.tok t v hv)]
  · rcases cases_ t v hv with ⟨ht, rfl⟩ | ⟨ht, hv⟩
    · exact k1 t ht
    · exact h.lt t v hv
  · rcases cases_ t v hv with ⟨ht, rfl⟩ | ⟨ht, hv⟩
    · rcases k3 n hn with hn | hn
      · exact dom n hn
      · exact app_dom.2 (.inr (all_mem.2 (.inl hn)))
    · exact dom n (h.tok t v hv n hn)
  · have h1 := h.from_ b hb
    have h2 := hA b (h.dom b hb)
    exact ⟨h2.1.trans h1.1, h2.2.1.trans h1.2.1, h2.2.2.trans h1.2.2⟩
theorem ofV_emb (E : Env) (v : Value) : (PV.ofV v).emb E = v := by
  cases v with
  | agg cs =>
    have : ∀ l : List Value, PV.embs E (l.map .raw) = l := by
      intro l
      induction l with
      | nil => rfl
      | cons v r ih => simp [PV.embs, PV.emb, ih]
    simp [PV.ofV, PV.emb, this]
  | tuple cs =>
    have : ∀ l : List Value, PV.embs E (l.map .raw) = l := by
      intro l
      induction l with
      | nil => rfl
      | cons v r ih => simp [PV.embs, PV.emb, ih]
    simp [PV.ofV, PV.emb, this]
  | _ => rfl
theorem raws_names : ∀ l : List Value, PV.namess (l.map .raw) = []
  | [] => rfl
  | v :: r => by simp [PV.namess, PV.names, raws_names r]
theorem ofV_names (v : Value) : (PV.ofV v).names = [] := by
  cases v <;> simp [PV.ofV, PV.names, raws_names]
theorem Rel.op1 {E : Env} {s : St} {a : Act} {w : World} (h : Rel tid I B w0 nt E0 m0 E s a w) {x : Operand} {v : PV} (hx : opnd s x = some v) : a.eval x = v.emb E := by
  cases x with
  | tmp t => exact h.tmps t v hx
  | const c => simp only [opnd, Option.some.injEq] at hx; subst hx; exact (ofV_emb E c).symm
  | func f => simp only [opnd, Option.some.injEq] at hx; subst hx; rfl
  | global g => simp [opnd] at hx
theorem Rel.opl {E : Env} {s : St} {a : Act} {w : World} (h : Rel tid I B w0 nt E0 m0 E s a w) : ∀ {l : List Operand} {vs : List PV}, opnds s l = some vs → l.map a.eval = vs.map (PV.emb E) ∧ ∀ v ∈ vs, ∀ n ∈ v.names, (s.mem n).isSome = true
  | [], vs, hv => by simp only [opnds, Option.some.injEq] at hv; subst hv; simp
  | x :: r, vs, hv => by
    simp only [opnds] at hv
    split at hv
    · rename_i v vs' hx hr
      simp only [Option.some.injEq] at hv
      subst hv
      obtain ⟨i1, i2⟩ := Rel.opl h hr
      refine ⟨by simp [h.op1 hx, i1], fun u hu n hn => ?_⟩
      rcases List.mem_cons.1 hu with rfl | hu
      · cases x with
        | tmp t => exact h.tok t u hx n hn
        | const c => simp only [opnd, Option.some.injEq] at hx; subst hx; rw [ofV_names] at hn; cases hn
        | func f => simp only [opnd, Option.some.injEq] at hx; subst hx; simp [PV.names, PV.namess] at hn
        | global g => simp [opnd] at hx
      · exact i2 u hu n hn
    · cases hv
theorem yielded_is {E : Env} {s : St} {a : Act} {w : World} (h : Rel tid I B w0 nt E0 m0 E s a w) {j t : Nat} {b : Bool} (ht : (ops[j]?).bind (·.dst) = some t) (hs : s.tmps t = some (.raw (.bool b))) : yielded ops a.tmps j = some b := by
  have h1 := h.tmps t _ hs
  have h2 := h.lt t _ hs
  rw [← h.size] at h2
  unfold yielded
  rw [ht]
  simp only [Option.bind_some]
  rw [Array.getD_eq_getD_getElem?, Array.getElem?_eq_getElem h2, Option.getD_some] at h1
  rw [Array.getElem?_eq_getElem h2, h1]
  rfl
theorem yielded_none {E : Env} {s : St} {a : Act} {w : World} (h : Rel tid I B w0 nt E0 m0 E s a w) {j t : Nat} {cs : Array Value} (ht : (ops[j]?).bind (·.dst) = some t) (hs : s.tmps t = some (.raw (.tuple cs))) : yielded ops a.tmps j = none := by
  have h1 := h.tmps t _ hs
  have h2 := h.lt t _ hs
  rw [← h.size] at h2
  unfold yielded
  rw [ht]
  simp only [Option.bind_some]
  rw [Array.getD_eq_getD_getElem?, Array.getElem?_eq_getElem h2, Option.getD_some] at h1
  rw [Array.getElem?_eq_getElem h2, h1]
  rfl
theorem Guard.wanted {E : Env} {s : St} {a : Act} {w : World} (h : Rel tid I B w0 nt E0 m0 E s a w) {o : Oper} {b : Bool} (g : Guard ops o s b) : Region.wanted o (yielded ops a.tmps) = b := by
  unfold Guard at g
  unfold Region.wanted
  cases hg : o.guard with
  | none => rw [hg] at g; exact g.symm
  | some p =>
    obtain ⟨j, want⟩ := p
    rw [hg] at g
    obtain ⟨t, h1, h2⟩ := g
    simp only
    rcases h2 with h2 | ⟨rfl, cs, h2⟩
    · rw [yielded_is h h1 h2]
      cases b <;> cases want <;> rfl
    · rw [yielded_none h h1 h2]
      cases want <;> rfl
theorem execs (hD : DoerOk P tid I D) : Execs P D nt ops Q fun s a w => ∃ E, Rel tid I B w0 nt E0 m0 E s a w := by
  intro i o s out c a w K ho hst hR hK
  obtain ⟨E, hR⟩ := hR
  unfold wpOp
  simp only [ho]
  cases hst with
  | did g vals hv hr hk hc =>
    rw [if_pos (g.wanted hR)]
    obtain ⟨v1, v2⟩ := hR.opl hv
    have hk' := okOut_iff.1 hk
    refine .inl (hD B o vals s.mem out E a w K Q v1 v2 hR.mem (Nat.le_trans hR.base hR.below.size) hR.inv hr ?_ (fun u hu => (hk'.2.2.2 u hu).1) ?_ ?_ (fun E' w' hA hM hB hF => hK _ _ ⟨E', hR.app hk hA hM hB hF⟩))
    · intro b hb
      obtain ⟨u, hu, rfl⟩ := List.mem_map.1 hb
      exact (hk'.2.1.1 u hu).1
    · intro n hn
      rcases List.mem_append.1 hn with hn | hn
      · exact hk'.2.2.1 n hn
      · obtain ⟨u, hu, hn⟩ := List.mem_flatMap.1 hn
        rcases List.mem_append.1 hu with hu | hu
        · exact (hk'.2.1.1 u hu).2 n hn
        · exact (hk'.2.2.2 u hu).2.2 n hn
    · exact hk'.2.1.2
  | skipped g ho' hk hc =>
    rw [g.wanted hR]
    subst ho'
    simp only [Bool.false_eq_true, if_false]
    refine hK _ _ ⟨E, hR.app hk (.refl _ _) ?_ (.refl _ _) (.refl _ _ _)⟩
    exact hR.mem
end
end Go.Proofs.YtpbklojdmkpkcaaDoor
