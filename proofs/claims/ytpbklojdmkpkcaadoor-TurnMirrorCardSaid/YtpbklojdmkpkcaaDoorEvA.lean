/- An evaluator of the model's code over values in which blocks have names: definitions. For any program. -/
import Derived.Orders
import Derived.Below
import Derived.KernelRfl
import Derived.Test.YtpbklojdmkpkcaaDoorData
namespace Go.Proofs.YtpbklojdmkpkcaaDoor
open Go Go.RowKit
set_option linter.unusedVariables false

/-- A value in which blocks of the call's own, and rows, have names. -/
inductive PV where
  | raw (v : Value)
  | ptr (b sz i off : Nat)
  | sl (b sz : Nat)
  | agg (l : List PV)
  | tup (l : List PV)
  | clo (f : FuncId) (caps : List PV)
instance : Inhabited PV := ⟨.raw undef⟩
abbrev PV.int (k : IntKind) (n : Int) : PV := .raw (.int k n)

/-- What lies under a name: a variable's cells, or a row of elements. -/
inductive Blk where
  | cells (cs : List PV) (ty : TypeId)
  | row (own : Bool) (t : ET) (l : List t.α)
structure St where
  tmps : Nat → Option PV
  mem : Nat → Option Blk
/-- Where the names are. -/
structure Env where
  at_ : Nat → Option (Nat × Nat)
  len : Nat → Nat
  cap : Nat → Nat

mutual
def PV.emb (E : Env) : PV → Value
  | .raw v => v
  | .ptr b sz i off => .pointer (some ⟨((E.at_ b).getD (0, 0)).1, ((E.at_ b).getD (0, 0)).2 + (i * sz + off), none⟩)
  | .sl b _ => match E.at_ b with
    | some (k, f) => .slice (some ⟨k, f, none⟩) (E.len b) (E.cap b)
    | none => .slice none 0 0
  | .agg l => .agg (PV.embs E l).toArray
  | .tup l => .tuple (PV.embs E l).toArray
  | .clo f caps => .func (.func f) #[] (PV.embs E caps).toArray
def PV.embs (E : Env) : List PV → List Value
  | [] => []
  | v :: r => PV.emb E v :: PV.embs E r
end
mutual
/-- All names that stand in it are such ones. -/
def PV.ok (d : Nat → Bool) : PV → Bool
  | .raw _ => true
  | .ptr b _ _ _ => d b
  | .sl b _ => d b
  | .agg l => PV.oks d l
  | .tup l => PV.oks d l
  | .clo _ caps => PV.oks d caps
def PV.oks (d : Nat → Bool) : List PV → Bool
  | [] => true
  | v :: r => PV.ok d v && PV.oks d r
end
mutual
def PV.names : PV → List Nat
  | .raw _ => []
  | .ptr b _ _ _ => [b]
  | .sl b _ => [b]
  | .agg l => PV.namess l
  | .tup l => PV.namess l
  | .clo _ caps => PV.namess caps
def PV.namess : List PV → List Nat
  | [] => []
  | v :: r => PV.names v ++ PV.namess r
end
def Blk.ok (d : Nat → Bool) : Blk → Bool
  | .cells cs _ => PV.oks d cs
  | .row _ _ _ => true
def Blk.names : Blk → List Nat
  | .cells cs _ => PV.namess cs
  | .row _ _ _ => []

inductive Ex where
  | normal | ret | exit (id : Nat)
/-- What an evaluation comes to. -/
inductive Tr (α : Type) : Type where
  | ret (a : α)
  | ite (c : Bool) (t e : Tr α)
  | need (p : Prop) (t : Tr α)
  | loop (body : Code) (s : St) (k : Ex → St → Tr α)
  | bad (n : Nat)
def Tr.bind {α β : Type} : Tr α → (α → Tr β) → Tr β
  | .ret a, f => f a
  | .ite c t e, f => .ite c (t.bind f) (e.bind f)
  | .need p t, f => .need p (t.bind f)
  | .loop b s k, f => .loop b s fun e s => (k e s).bind f
  | .bad n, _ => .bad n
open Classical in
noncomputable def Tr.run {α : Type} : Tr α → Option α
  | .ret a => some a
  | .ite c t e => bif c then t.run else e.run
  | .need p t => if p then t.run else none
  | .loop _ _ _ => none
  | .bad _ => none
def Tr.noLoop {α : Type} : Tr α → Tr α
  | .ret a => .ret a
  | .ite c t e => .ite c t.noLoop e.noLoop
  | .need p t => .need p t.noLoop
  | .loop _ _ _ => .bad 90
  | .bad n => .bad n

/-- What an operation does: what it yields, which blocks it makes, which it turns. -/
structure Out where
  put : PV
  news : List (Nat × Blk) := []
  ups : List (Nat × Blk) := []
/-- Of an operation, once it has come up: which slots it read, which it wrote, which blocks it read, turned, made, named. -/
structure Rec where
  tr : List Nat
  tw : List Nat
  rd : List Nat
  wr : List Nat
  nw : List Nat
  ment : List Nat

def upd {α : Type} (f : Nat → Option α) (k : Nat) (v : α) : Nat → Option α := fun n => bif Nat.beq n k then some v else f n
def upds {α : Type} (f : Nat → Option α) : List (Nat × α) → Nat → Option α
  | [] => f
  | (k, v) :: r => upds (upd f k v) r
def St.app (s : St) (dst : Option Tmp) (o : Out) : St :=
  { tmps := match dst with
      | some d => upd s.tmps d o.put
      | none => s.tmps
    mem := upds s.mem (o.news ++ o.ups) }
def has (l : List Nat) (n : Nat) : Bool := l.any (Nat.beq n)
def restr (m : Nat → Option Blk) (R : List Nat) : Nat → Option Blk := fun n => bif has R n then m n else none

/-- A constant. -/
def PV.ofV : Value → PV
  | .agg cs => .agg (cs.toList.map .raw)
  | .tuple cs => .tup (cs.toList.map .raw)
  | v => .raw v
def opnd (s : St) : Operand → Option PV
  | .tmp t => s.tmps t
  | .const v => some (.ofV v)
  | .func f => some (.clo f [])
  | .global _ => none
def opnds (s : St) : List Operand → Option (List PV)
  | [] => some []
  | x :: r => match opnd s x, opnds s r with
    | some v, some vs => some (v :: vs)
    | _, _ => none

/-- What the evaluation leans on: how one operation, told with its operands' values and the blocks that it may look at, is done. -/
structure Doer where
  foot : Oper → List PV → (Nat → Option Blk) → List Nat
  core : Oper → List PV → (Nat → Option Blk) → Tr Out

/-- Is all as it must be? The new names are new; all that is named is there; the slot is there. -/
def okDst (nt : Nat) : Option Tmp → Bool
  | some d => Nat.blt d nt
  | none => true
def okNews (s : St) (d : Nat → Bool) : List (Nat × Blk) → Bool
  | [] => true
  | (b, k) :: r => !(s.mem b).isSome && k.ok d && !has (r.map (·.1)) b && okNews s d r
def okOut (nt : Nat) (s : St) (R : List Nat) (dst : Option Tmp) (o : Out) : Bool :=
  okDst nt dst && okNews s (fun n => (s.mem n).isSome || has (o.news.map (·.1)) n) o.news &&
  o.put.ok (fun n => (s.mem n).isSome || has (o.news.map (·.1)) n) && o.ups.all fun u => (s.mem u.1).isSome && has R u.1 && u.2.ok (fun n => (s.mem n).isSome || has (o.news.map (·.1)) n)
def tmpsOf : List Operand → List Nat
  | [] => []
  | .tmp t :: r => t :: tmpsOf r
  | _ :: r => tmpsOf r
def guardTmp (ops : Array Oper) (o : Oper) : List Nat := match o.guard with
  | some (j, _) => ((ops[j]?).bind (·.dst)).toList
  | none => []
def recOf (ops : Array Oper) (o : Oper) (R : List Nat) (out : Out) : Rec :=
  { tr := tmpsOf o.op.operands.toList ++ guardTmp ops o, tw := o.dst.toList, rd := R, wr := out.ups.map (·.1), nw := out.news.map (·.1),
    ment := out.put.names ++ (out.news ++ out.ups).flatMap (·.2.names) }
def skipOut : Out := { put := .raw undef }
def evDo (D : Doer) (nt : Nat) (ops : Array Oper) (o : Oper) (s : St) : Tr (St × Rec) :=
  match opnds s o.op.operands.toList with
  | none => .bad 1
  | some vals =>
    let R := D.foot o vals s.mem
    (D.core o vals (restr s.mem R)).bind fun out =>
      bif okOut nt s R o.dst out then .ret (s.app o.dst out, recOf ops o R out) else .bad 2
def evSkip (nt : Nat) (ops : Array Oper) (o : Oper) (s : St) : Tr (St × Rec) :=
  bif okOut nt s [] o.dst skipOut then .ret (s.app o.dst skipOut, recOf ops o [] skipOut) else .bad 3
/-- A truth that is known from here on. -/
def St.know (s : St) (t : Nat) (b : Bool) : St := { s with tmps := upd s.tmps t (.raw (.bool b)) }
def St.knowO (s : St) : Operand → Bool → St
  | .tmp t, b => s.know t b
  | _, _ => s
/-- Guards that are known. -/
abbrev Kn := List (Nat × Bool)
def lookK : Kn → Nat → Option Bool
  | [], _ => none
  | (t, b) :: r, n => bif Nat.beq t n then some b else lookK r n
def forgetK (d : Option Tmp) : Kn → Kn
  | [] => []
  | (t, b) :: r => bif has d.toList t then forgetK d r else (t, b) :: forgetK d r
def evGo (D : Doer) (nt : Nat) (ops : Array Oper) (o : Oper) (s : St) (kn : Kn) (b : Bool) : Tr (St × Rec × Kn) :=
  (bif b then evDo D nt ops o s else evSkip nt ops o s).bind fun (s', c) => .ret (s', c, forgetK o.dst kn)
def evOp (D : Doer) (nt : Nat) (ops : Array Oper) (o : Oper) (s : St) (kn : Kn) : Tr (St × Rec × Kn) :=
  match o.guard with
  | none => evGo D nt ops o s kn true
  | some (j, want) => match (ops[j]?).bind (·.dst) with
    | none => .bad 4
    | some t => match lookK kn t with
      | some b => evGo D nt ops o s kn (b == want)
      | none => match s.tmps t with
        | some (.raw (.bool b)) => .ite b (evGo D nt ops o (s.know t true) ((t, true) :: kn) (true == want)) (evGo D nt ops o (s.know t false) ((t, false) :: kn) (false == want))
        | _ => .bad 4
def evOps (D : Doer) (nt : Nat) (ops : Array Oper) : List Oper → St → Kn → List Rec → Tr (St × List Rec)
  | [], s, _, l => .ret (s, l.reverse)
  | o :: r, s, kn, l => (evOp D nt ops o s kn).bind fun (s, c, kn) => evOps D nt ops r s kn (c :: l)

/-- Of each operation those that come ahead of it in whatever order: bits. -/
def ancs (ops : Array Oper) : List Nat := (Region.before ops).toList
def meet (a b : List Nat) : Bool := a.any (has b)
def clash (x y : Rec) : Bool := meet x.tw y.tr || meet y.tw x.tr || meet x.tw y.tw || meet x.wr y.rd || meet y.wr x.rd || meet x.wr y.wr || meet x.nw y.ment || meet x.nw y.rd || meet y.nw x.rd
/-- Each two that clash come up in the text's order. -/
def okTrace (A : List Nat) : List Rec → List Rec → Bool
  | _, [] => true
  | before, c :: r => (before.zipIdx.all fun (x, i) => !clash x c || (A.getD before.length 0).testBit i) && okTrace A (before ++ [c]) r
/-- What an operation waits for stands ahead of it in the text. -/
def backOk : Nat → List Oper → Bool
  | _, [] => true
  | i, o :: r => (o.after.toList.all fun e => !Region.binds .any e || Nat.blt e.on i) && backOk (i + 1) r
def evRegion (D : Doer) (nt : Nat) (ops : Array Oper) (draw : Bool) (s : St) : Tr St :=
  (evOps D nt ops ops.toList s [] []).noLoop.bind fun (s, l) => bif !draw || (backOk 0 ops.toList && okTrace (ancs ops) [] l) then .ret s else .bad 5
def evCode (D : Doer) (nt : Nat) : Code → St → Tr (Ex × St)
  | .skip, s => .ret (.normal, s)
  | .region _ ops draw, s => (evRegion D nt ops draw s).bind fun s => .ret (.normal, s)
  | .seq a b, s => (evCode D nt a s).bind fun (e, s) => match e with
    | .normal => evCode D nt b s
    | e => .ret (e, s)
  | .cond c t e, s => match opnd s c with
    | some (.raw (.bool b)) => .ite b (evCode D nt t (s.knowO c true)) (evCode D nt e (s.knowO c false))
    | _ => .bad 6
  | .block id b, s => (evCode D nt b s).bind fun (e, s) => match e with
    | .exit j => bif Nat.beq j id then .ret (.normal, s) else .ret (.exit j, s)
    | e => .ret (e, s)
  | .loop b, s => .loop b s fun e s => .ret (e, s)
  | .exit id, s => .ret (.exit id, s)
  | .ret, s => .ret (.ret, s)
  | _, _ => .bad 7
end Go.Proofs.YtpbklojdmkpkcaaDoor
