/- An evaluator of the model's code over values in which blocks have names: definitions. For any program. -/
import Derived.Orders
import Derived.Below
import Derived.KernelRfl
import Derived.Test.YtpbklojdmkpkcaaDoorData
namespace Go.Proofs.YtpbklojdmkpkcaaDoor
open Go Go.RowKit
set_option linter.unusedVariables false

/-- A value in which blocks of the call's own, and rows, have names. -/
inductive PV where
  | raw (v : Value)
  | ptr (b sz i off : Nat)
  | sl (b sz : Nat)
  | agg (l : List PV)
  | tup (l : List PV)
  | clo (f : FuncId) (caps : List PV)
  | isnil (b : Nat) (neg : Bool)
instance : Inhabited PV := ⟨.raw undef⟩
abbrev PV.int (k : IntKind) (n : Int) : PV := .raw (.int k n)

/-- What lies under a name: a variable's cells, or a row of elements. -/
inductive Blk where
  | cells (cs : List PV) (ty : TypeId)
  | row (own : Bool) (t : ET) (l : List t.α)
  | gone
structure St where
  tmps : Nat → Option PV
  mem : Nat → Option Blk
/-- Where the names are. -/
structure Env where
  at_ : Nat → Option (Nat × Nat)
  len : Nat → Nat
  cap : Nat → Nat

mutual
def PV.emb (E : Env) : PV → Value
  | .raw v => v
  | .ptr b sz i off => .pointer (some ⟨((E.at_ b).getD (0, 0)).1, ((E.at_ b).getD (0, 0)).2 + (i * sz + off), none⟩)
  | .sl b _ => match E.at_ b with
    | some (k, f) => .slice (some ⟨k, f, none⟩) (E.len b) (E.cap b)
    | none => .slice none 0 0
  | .agg l => .agg (PV.embs E l).toArray
  | .tup l => .tuple (PV.embs E l).toArray
  | .clo f caps => .func (.func f) #[] (PV.embs E caps).toArray
  | .isnil b neg => .bool (neg != (E.at_ b).isNone)
def PV.embs (E : Env) : List PV → List Value
  | [] => []
  | v :: r => PV.emb E v :: PV.embs E r
end
mutual
/-- All names that stand in it are such ones. -/
def PV.ok (d : Nat → Bool) : PV → Bool
  | .raw _ => true
  | .ptr b _ _ _ => d b
  | .sl b _ => d b
  | .agg l => PV.oks d l
  | .tup l => PV.oks d l
  | .clo _ caps => PV.oks d caps
  | .isnil b _ => d b
def PV.oks (d : Nat → Bool) : List PV → Bool
  | [] => true
  | v :: r => PV.ok d v && PV.oks d r
end
mutual
def PV.names : PV → List Nat
  | .raw _ => []
  | .ptr b _ _ _ => [b]
  | .sl b _ => [b]
  | .agg l => PV.namess l
  | .tup l => PV.namess l
  | .clo _ caps => PV.namess caps
  | .isnil b _ => [b]
def PV.namess : List PV → List Nat
  | [] => []
  | v :: r => PV.names v ++ PV.namess r
end
def Blk.ok (d : Nat → Bool) : Blk → Bool
  | .cells cs _ => PV.oks d cs
  | .row _ _ _ => true
  | .gone => true
def Blk.names : Blk → List Nat
  | .cells cs _ => PV.namess cs
  | .row _ _ _ => []
  | .gone => []

inductive Ex where
  | normal | ret | exit (id : Nat)
/-- What an evaluation comes to. -/
inductive Tr (α : Type) : Type 1 where
  | ret (a : α)
  | ite (c : Bool) (t e : Tr α)
  | need (p : Prop) (t : Tr α)
  | chk (c : Bool) (t : Tr α)
  | all (σ : Type) (p : σ → Prop) (f : σ → Tr α)
  | done
  | bad (n : Nat)
def Tr.bind {α β : Type} : Tr α → (α → Tr β) → Tr β
  | .ret a, f => f a
  | .ite c t e, f => .ite c (t.bind f) (e.bind f)
  | .need p t, f => .need p (t.bind f)
  | .chk c t, f => .chk c (t.bind f)
  | .all σ p t, f => .all σ p fun x => (t x).bind f
  | .done, _ => .done
  | .bad n, _ => .bad n
open Classical in
noncomputable def Tr.run {α : Type} : Tr α → Option α
  | .ret a => some a
  | .ite c t e => bif c then t.run else e.run
  | .need p t => if p then t.run else none
  | .chk c t => bif c then t.run else none
  | .all _ _ _ => none
  | .done => none
  | .bad _ => none
def Tr.noLoop {α : Type} : Tr α → Tr α
  | .ret a => .ret a
  | .ite c t e => .ite c t.noLoop e.noLoop
  | .need p t => .need p t.noLoop
  | .chk c t => .chk c t.noLoop
  | .all _ _ _ => .bad 90
  | .done => .bad 91
  | .bad n => .bad n

/-- Where truths are known they are looked at. -/
def Tr.force {α : Type} : Tr α → Tr α
  | .ret a => .ret a
  | .ite c t e => match c with
    | true => t.force
    | false => e.force
  | .need p t => .need p t.force
  | .chk c t => match c with
    | true => t.force
    | false => .bad 99
  | .all σ p f => .all σ p fun x => (f x).force
  | .done => .done
  | .bad n => .bad n

/-- What an operation does: what it yields, which blocks it makes, which it turns. -/
structure Out where
  put : PV
  news : List (Nat × Blk) := []
  ups : List (Nat × Blk) := []
/-- Of an operation, once it has come up: which slots it read, which it wrote, which blocks it read, turned, made, named. -/
structure Rec where
  tr : List Nat
  tw : List Nat
  rd : List Nat
  wr : List Nat
  nw : List Nat
  ment : List Nat

def upd {α : Type} (f : Nat → Option α) (k : Nat) (v : α) : Nat → Option α := fun n => bif Nat.beq n k then some v else f n
def upds {α : Type} (f : Nat → Option α) : List (Nat × α) → Nat → Option α
  | [] => f
  | (k, v) :: r => upds (upd f k v) r
def St.app (s : St) (dst : Option Tmp) (o : Out) : St :=
  { tmps := match dst with
      | some d => upd s.tmps d o.put
      | none => s.tmps
    mem := upds s.mem (o.news ++ o.ups) }
def has (l : List Nat) (n : Nat) : Bool := l.any (Nat.beq n)
def restr (m : Nat → Option Blk) (R : List Nat) : Nat → Option Blk := fun n => bif has R n then m n else none

/-- A constant. -/
def PV.ofV : Value → PV
  | .agg cs => .agg (cs.toList.map .raw)
  | .tuple cs => .tup (cs.toList.map .raw)
  | v => .raw v
def opnd (s : St) : Operand → Option PV
  | .tmp t => s.tmps t
  | .const v => some (.ofV v)
  | .func f => some (.clo f [])
  | .global _ => none
def opnds (s : St) : List Operand → Option (List PV)
  | [] => some []
  | x :: r => match opnd s x, opnds s r with
    | some v, some vs => some (v :: vs)
    | _, _ => none

/-- What the evaluation leans on: how one operation, told with its operands' values and the blocks that it may look at, is done. -/
structure Doer where
  foot : Oper → List PV → (Nat → Option Blk) → List Nat
  core : Oper → List PV → (Nat → Option Blk) → Tr Out
  fuel : Nat := 0

/-- Is all as it must be? The new names are new; all that is named is there; the slot is there. -/
def okDst (nt : Nat) : Option Tmp → Bool
  | some d => Nat.blt d nt
  | none => true
def okNews (s : St) (d : Nat → Bool) : List (Nat × Blk) → Bool
  | [] => true
  | (b, k) :: r => !(s.mem b).isSome && k.ok d && !has (r.map (·.1)) b && okNews s d r
def okOut (nt : Nat) (s : St) (R : List Nat) (dst : Option Tmp) (o : Out) : Bool :=
  okDst nt dst && okNews s (fun n => (s.mem n).isSome || has (o.news.map (·.1)) n) o.news &&
  o.put.ok (fun n => (s.mem n).isSome || has (o.news.map (·.1)) n) && o.ups.all fun u => (s.mem u.1).isSome && has R u.1 && u.2.ok (fun n => (s.mem n).isSome || has (o.news.map (·.1)) n)
def tmpsOf : List Operand → List Nat
  | [] => []
  | .tmp t :: r => t :: tmpsOf r
  | _ :: r => tmpsOf r
def guardTmp (ops : Array Oper) (o : Oper) : List Nat := match o.guard with
  | some (j, _) => ((ops[j]?).bind (·.dst)).toList
  | none => []
def recOf (ops : Array Oper) (o : Oper) (R : List Nat) (out : Out) : Rec :=
  { tr := tmpsOf o.op.operands.toList ++ guardTmp ops o, tw := o.dst.toList, rd := R, wr := out.ups.map (·.1), nw := out.news.map (·.1),
    ment := out.put.names ++ (out.news ++ out.ups).flatMap (·.2.names) }
def skipOut : Out := { put := .raw undef }
def evDo (D : Doer) (nt : Nat) (ops : Array Oper) (o : Oper) (s : St) : Tr (St × Rec) :=
  match opnds s o.op.operands.toList with
  | none => .bad 1
  | some vals =>
    let R := D.foot o vals s.mem
    (D.core o vals (restr s.mem R)).bind fun out =>
      bif okOut nt s R o.dst out then .ret (s.app o.dst out, recOf ops o R out) else .bad 2
def evSkip (nt : Nat) (ops : Array Oper) (o : Oper) (s : St) : Tr (St × Rec) :=
  bif okOut nt s [] o.dst skipOut then .ret (s.app o.dst skipOut, recOf ops o [] skipOut) else .bad 3
/-- A truth that is known from here on. -/
def St.know (s : St) (t : Nat) (b : Bool) : St := { s with tmps := upd s.tmps t (.raw (.bool b)) }
def St.knowO (s : St) : Operand → Bool → St
  | .tmp t, b => s.know t b
  | _, _ => s
/-- Guards that are known. -/
abbrev Kn := List (Nat × Bool)
def lookK : Kn → Nat → Option Bool
  | [], _ => none
  | (t, b) :: r, n => bif Nat.beq t n then some b else lookK r n
def forgetK (d : Option Tmp) : Kn → Kn
  | [] => []
  | (t, b) :: r => bif has d.toList t then forgetK d r else (t, b) :: forgetK d r
def evGo (D : Doer) (nt : Nat) (ops : Array Oper) (o : Oper) (s : St) (kn : Kn) (b : Bool) : Tr (St × Rec × Kn) :=
  (bif b then evDo D nt ops o s else evSkip nt ops o s).bind fun (s', c) => .ret (s', c, forgetK o.dst kn)
def evOp (D : Doer) (nt : Nat) (ops : Array Oper) (o : Oper) (s : St) (kn : Kn) : Tr (St × Rec × Kn) :=
  match o.guard with
  | none => evGo D nt ops o s kn true
  | some (j, want) => match (ops[j]?).bind (·.dst) with
    | none => .bad 4
    | some t => match lookK kn t with
      | some b => evGo D nt ops o s kn (b == want)
      | none => match s.tmps t with
        | some (.raw (.bool b)) => .ite b (evGo D nt ops o (s.know t true) ((t, true) :: kn) (true == want)) (evGo D nt ops o (s.know t false) ((t, false) :: kn) (false == want))
        | some (.raw (.tuple _)) => evGo D nt ops o s kn false
        | _ => .bad 4
def evOps (D : Doer) (nt : Nat) (ops : Array Oper) : List Oper → St → Kn → List Rec → Tr (St × List Rec)
  | [], s, _, l => .ret (s, l.reverse)
  | o :: r, s, kn, l => (evOp D nt ops o s kn).bind fun (s, c, kn) => evOps D nt ops r s kn (c :: l)

/-- Of each operation those that come ahead of it in whatever order: bits. -/
def ancs (ops : Array Oper) : List Nat := (Region.before ops).toList
def meet (a b : List Nat) : Bool := a.any (has b)
def clash (x y : Rec) : Bool := meet x.tw y.tr || meet y.tw x.tr || meet x.tw y.tw || meet x.wr y.rd || meet y.wr x.rd || meet x.wr y.wr || meet x.nw y.ment || meet x.nw y.rd || meet y.nw x.rd
/-- Each two that clash come up in the text's order. -/
def okTrace (A : List Nat) : List Rec → List Rec → Bool
  | _, [] => true
  | before, c :: r => (before.zipIdx.all fun (x, i) => !clash x c || (A.getD before.length 0).testBit i) && okTrace A (before ++ [c]) r
/-- What an operation waits for stands ahead of it in the text. -/
def backOk : Nat → List Oper → Bool
  | _, [] => true
  | i, o :: r => (o.after.toList.all fun e => !Region.binds .any e || Nat.blt e.on i) && backOk (i + 1) r
def evRegion (D : Doer) (nt : Nat) (ops : Array Oper) (draw : Bool) (s : St) : Tr St :=
  (evOps D nt ops ops.toList s [] []).noLoop.bind fun (s, l) => bif !draw || (backOk 0 ops.toList && okTrace (ancs ops) [] l) then .ret s else .bad 5
def namesIn (m : Nat → Option Blk) (b : Nat) : List Nat := match m b with
  | some k => k.names
  | none => []
def reach (m : Nat → Option Blk) : Nat → List Nat → List Nat
  | 0, l => l
  | n + 1, l => l ++ reach m n (l.flatMap (namesIn m))

/-- Nothing of what is locked may be turned. -/
def lockD (D : Doer) (lb : List Nat) : Doer := { foot := D.foot, fuel := D.fuel, core := fun o vals m => (D.core o vals m).bind fun out => bif out.ups.all (fun u => !has lb u.1) then .ret out else .bad 14 }
/-- The slots that code writes; how many loops stand in it. -/
def asg : Code → List Nat
  | .region _ ops _ => ops.toList.flatMap (·.dst.toList)
  | .seq a b => asg a ++ asg b
  | .cond _ a b => asg a ++ asg b
  | .block _ b => asg b
  | .loop b => asg b
  | _ => []
def loopsIn : Code → Nat
  | .seq a b => loopsIn a + loopsIn b
  | .cond _ a b => loopsIn a + loopsIn b
  | .block _ b => loopsIn b
  | .loop b => loopsIn b + 1
  | _ => 0
/-- What is told of a loop: the slots and names that stand at each round's head; which of the names are new (rows whose true name a round may change); what stands there, by a datum; how the datum is read off; what holds of it; its measure. All by the state in which the loop is come to. -/
structure LSpec where
  σ : Type
  keysT : List Nat
  keysB : List Nat := []
  rows : List Nat := []
  enc : St → σ → List PV × List Blk
  rd : St → St → Option (σ × List (Nat × Option Nat))
  inv : St → σ → Prop
  μ : St → σ → Nat
  fuel : Nat := 0
/-- A loop that is walked round by round, so often at most. -/
def LSpec.un (n : Nat) : LSpec := { σ := Unit, keysT := [], enc := fun _ _ => ([], []), rd := fun _ _ => none, inv := fun _ _ => True, μ := fun _ _ => 0, fuel := n }
abbrev Ren := List (Nat × Option Nat)
def ren : Ren → Nat → Option (Option Nat)
  | [], _ => none
  | (r, o) :: l, n => bif Nat.beq r n then some o else ren l n
def andO : Option Prop → Option Prop → Option Prop
  | some p, some q => some (p ∧ q)
  | _, _ => none
mutual
/-- A value of a round's end is that of the next one's head. -/
def eqPV (ρ : Ren) : PV → PV → Option Prop
  | .raw (.int k a), .raw (.int k' b) => if k = k' then some (a = b) else none
  | .raw (.bool a), .raw (.bool b) => some (a = b)
  | .raw (.slice none 0 0), .raw (.slice none 0 0) => some True
  | .raw (.slice none 0 0), .sl r _ => match ren ρ r with
    | some none => some True
    | _ => none
  | .ptr b sz i off, .ptr b' sz' i' off' => bif Nat.beq b b' && Nat.beq sz sz' && Nat.beq off off' then match ren ρ b' with
    | none => some (i = i')
    | some _ => none else none
  | .sl b sz, .sl r sz' => bif Nat.beq sz sz' then match ren ρ r with
    | none => bif Nat.beq b r then some True else none
    | some (some c) => bif Nat.beq b c then some True else none
    | some none => none else none
  | .agg l, .agg l' => eqPVs ρ l l'
  | .tup l, .tup l' => eqPVs ρ l l'
  | .clo f l, .clo g l' => bif Nat.beq f g then eqPVs ρ l l' else none
  | _, _ => none
def eqPVs (ρ : Ren) : List PV → List PV → Option Prop
  | [], [] => some True
  | u :: r, v :: r' => andO (eqPV ρ u v) (eqPVs ρ r r')
  | _, _ => none
end
def eqBlk (ρ : Ren) : Blk → Blk → Option Prop
  | .cells l ty, .cells l' ty' => bif Nat.beq ty ty' then eqPVs ρ l l' else none
  | .row own t l, .row own' t' l' => bif own == own' then if h : t = t' then some (h ▸ l = l') else none else none
  | _, _ => none
def fitT (ρ : Ren) (s : St) : List Nat → List PV → Option Prop
  | [], [] => some True
  | t :: ts, v :: vs => match s.tmps t with
    | some u => andO (eqPV ρ u v) (fitT ρ s ts vs)
    | none => none
  | _, _ => none
def fit1 (ρ : Ren) (s : St) (r : Nat) (k : Blk) : Option Prop := match ren ρ r with
  | some none => match k with
    | .row _ _ l => some (l = [])
    | _ => none
  | some (some b) => match s.mem b with
    | some k' => eqBlk ρ k' k
    | none => none
  | none => match s.mem r with
    | some k' => eqBlk ρ k' k
    | none => none
def fitB (ρ : Ren) (s : St) : List Nat → List Blk → Option Prop
  | [], [] => some True
  | r :: rs, k :: ks => andO (fit1 ρ s r k) (fitB ρ s rs ks)
  | _, _ => none
def Blk.own : Blk → Bool
  | .cells _ _ => true
  | .row own _ _ => own
  | .gone => false
def tgt (ρ : Ren) (r : Nat) : Option Nat := match ren ρ r with
  | some o => o
  | none => some r
/-- Where the head's own blocks come from. -/
def tgts (ρ : Ren) : List Nat → List Blk → List Nat
  | r :: rs, k :: ks => bif k.own then (tgt ρ r).toList ++ tgts ρ rs ks else tgts ρ rs ks
  | _, _ => []
def nodupB : List Nat → Bool
  | [] => true
  | n :: r => !has r n && nodupB r
def okFit (ρ : Ren) (N : List Nat) (L : LSpec) (v : List PV × List Blk) : Bool :=
  ρ.all (fun p => has L.rows p.1) && nodupB (tgts ρ L.keysB v.2) && (tgts ρ L.keysB v.2).all (fun n => !has N n) && v.1.all (·.ok fun n => has N n || has L.keysB n) && v.2.all (·.ok fun n => has N n || has L.keysB n)
def fitTr (ρ : Ren) (N : List Nat) (L : LSpec) (s : St) (v : List PV × List Blk) : Tr Unit := match fitT ρ s L.keysT v.1, fitB ρ s L.keysB v.2 with
  | some p, some q => bif okFit ρ N L v then .need p (.need q (.ret ())) else .bad 12
  | _, _ => .bad 13
/-- A list's members of a kind, one after the other looked at. -/
def sift {β : Type} (p : Nat → Bool) : List Nat → (List Nat → Tr β) → Tr β
  | [], k => k []
  | n :: r, k => match p n with
    | true => sift p r fun r' => k (n :: r')
    | false => sift p r k
def gather {β : Type} : List Nat → List Nat → (List Nat → Tr β) → Tr β
  | [], acc, k => k acc
  | n :: r, acc, k => match has acc n with
    | true => gather r acc k
    | false => gather r (n :: acc) k
def namesAt (s : St) (t : Nat) : List Nat := match s.tmps t with
  | some v => v.names
  | none => []
def stays (L : LSpec) (N : List Nat) (n : Nat) : Bool := has N n || (has L.keysB n && !has L.rows n)
def okName (s : St) (L : LSpec) (N : List Nat) (n : Nat) : Bool := match s.mem n with
  | some k => k.ok (stays L N)
  | none => false
def okSlot (s : St) (L : LSpec) (N : List Nat) (t : Nat) : Bool := match s.tmps t with
  | some v => v.ok (stays L N)
  | none => false
def isOwn (s : St) (n : Nat) : Bool := match s.mem n with
  | some k => k.own
  | none => false
def gone (s : St) (ρ : Ren) (n : Nat) : Bool := ρ.any fun p => has p.2.toList n && isOwn s n
def okHd (M lt lb : List Nat) (L : LSpec) (s : St) (T N : List Nat) : Bool :=
  N.all (okName s L N) && lt.all (has T) && lb.all (has N) && M.all (stays L N) && nodupB L.keysT && nodupB L.keysB && L.rows.all (fun r => has L.keysB r && !(s.mem r).isSome)
def St.head (s : St) (T N : List Nat) (L : LSpec) (v : List PV × List Blk) : St :=
  { tmps := upds (fun t => bif has T t then s.tmps t else none) (L.keysT.zip v.1), mem := upds (fun n => bif has N n then s.mem n else none) (L.keysB.zip v.2) }
/-- A loop's head, come to for the first time: which slots and names stay. -/
def atHead (nt : Nat) (M lt lb : List Nat) (A : List Nat) (L : LSpec) (s : St) (ρ : Ren) (k : List Nat → List Nat → Tr (Ex × St)) : Tr (Ex × St) :=
  sift (fun t => (s.tmps t).isSome && !has A t && !has L.keysT t) (List.range nt) fun T0 =>
  gather (M ++ lb ++ reach s.mem 3 (T0.flatMap (namesAt s))) [] fun N0 =>
  sift (fun n => !has L.keysB n && !gone s ρ n) N0 fun N1 =>
  sift (okName s L N1) N1 fun N =>
  sift (okSlot s L N) T0 fun T =>
  bif okHd M lt lb L s T N then k T N else .bad 11
def atBack (L : LSpec) (s : St) (N : List Nat) (x : L.σ) (s' : St) : Tr (Ex × St) := match L.rd s s' with
  | some (y, ρ) => (fitTr ρ N L s' (L.enc s y)).bind fun _ => .need (L.inv s y) (.need (L.μ s y < L.μ s x) .done)
  | none => .bad 10
def evUn (f : Nat → St → Tr (Ex × St)) : Nat → Nat → St → Tr (Ex × St)
  | 0, _, _ => .bad 8
  | n + 1, j, s => (f j s).bind fun (e, s') => match e with
    | .normal => evUn f n (j + 1) s'
    | e => .ret (e, s')
/-- The names' number in a round. -/
def round (k j : Nat) : Nat := k * 1000 + j + 1
def evCode (D : Nat → Doer) (nt : Nat) (M : List Nat) : Code → Nat → List LSpec → List Nat → List Nat → St → Tr (Ex × St)
  | .skip, _, _, _, _, s => .ret (.normal, s)
  | .region _ ops draw, k, _, _, lb, s => (evRegion (lockD (D k) lb) nt ops draw s).bind fun s => .ret (.normal, s)
  | .seq a b, k, Ls, lt, lb, s => (evCode D nt M a k Ls lt lb s).bind fun (e, s) => match e with
    | .normal => evCode D nt M b k (Ls.drop (loopsIn a)) lt lb s
    | e => .ret (e, s)
  | .cond c t e, k, Ls, lt, lb, s => match opnd s c with
    | some (.raw (.bool b)) => .ite b (evCode D nt M t k Ls lt lb (s.knowO c true)) (evCode D nt M e k (Ls.drop (loopsIn t)) lt lb (s.knowO c false))
    | some (.isnil b neg) => match s.mem b with
      | some (.row _ _ l) => .all Bool (fun c => c = true → l = []) fun c => .ite (neg != c) (evCode D nt M t k Ls lt lb s) (evCode D nt M e k (Ls.drop (loopsIn t)) lt lb s)
      | _ => .bad 6
    | _ => .bad 6
  | .block id b, k, Ls, lt, lb, s => (evCode D nt M b k Ls lt lb s).bind fun (e, s) => match e with
    | .exit j => bif Nat.beq j id then .ret (.normal, s) else .ret (.exit j, s)
    | e => .ret (e, s)
  | .loop b, k, Ls, lt, lb, s => match Ls with
    | [] => evUn (fun j s => evCode D nt M b (round k j) [] lt lb s) (D k).fuel 0 s
    | L :: r => match L.fuel with
      | n + 1 => evUn (fun j s => evCode D nt M b (round k j) r lt lb s) (n + 1) 0 s
      | 0 => match L.rd s s with
        | none => .bad 9
        | some (x0, ρ0) => atHead nt M lt lb (asg b) L s ρ0 fun T N => (fitTr ρ0 N L s (L.enc s x0)).bind fun _ => .need (L.inv s x0) (.all L.σ (L.inv s) fun x =>
            (evCode D nt M b k r T N (s.head T N L (L.enc s x))).bind fun (e, s') => match e with
              | .normal => atBack L s N x s'
              | e => .ret (e, s'))
  | .exit id, _, _, _, _, s => .ret (.exit id, s)
  | .ret, _, _, _, _, s => .ret (.ret, s)
  | _, _, _, _, _, _ => .bad 7
end Go.Proofs.YtpbklojdmkpkcaaDoor
