import Derived.Laws.CopyRow
import Derived.Laws.StructEq
import Derived.Laws.Rows
import Derived.Lib.LazyBuf
import Derived.Laws.CopyOwn
import Derived.Maps.AppendAt
import Derived.Laws.OwnMore
import Derived.Test.YtpbklojdmkpkcaaDoorG5
/- The evaluator: what each operation does. -/
namespace Go.Proofs.YtpbklojdmkpkcaaDoor
open Go Go.RowKit
set_option linter.unusedVariables false
set_option linter.unusedSimpArgs false

/-- Calls: of Go functions (the name for what is new, the arguments, what may be looked at), of functions without a body. -/
structure Orc where
  call : FuncId → Option (Nat → List PV → (Nat → Option Blk) → Tr Out)
  ext : FuncId → Option (List PV → Tr PV)
  et : TypeId → Option ET := fun _ => none
  fuel : Nat := 0
  hint : Kn := []

def pureRun (P : Program) {α : Type} : Sem α → Option α
  | .pure a => some a
  | .program k => pureRun P (k P)
  | .mark _ k => pureRun P k
  | _ => none
/-- Is it a struct or an array; how many cells. -/
def tyOf (P : Program) (t : TypeId) : Option (Bool × Nat) := match P.underlying t, P.info? t with
  | some (.struct _), some i => some (true, i.size)
  | some (.array _ _), some i => some (true, i.size)
  | some _, some i => some (false, i.size)
  | _, _ => none
def oneV : Value → Bool
  | .agg _ | .tuple _ => false
  | _ => true
def PV.one : PV → Bool
  | .raw v => oneV v
  | .agg _ | .tup _ => false
  | _ => true
/-- A value's cells. -/
def flat : PV → Option (List PV)
  | .agg l => bif l.all PV.one then some l else none
  | v => bif v.one then some [v] else none
def partPV (P : Program) (t : TypeId) (cs : List PV) (off : Nat) : Option PV := match tyOf P t with
  | some (true, n) => bif Nat.ble (off + n) cs.length then some (.agg ((cs.drop off).take n)) else none
  | some (false, _) => cs[off]?
  | none => none
def patch (cs : List PV) (off : Nat) (vs : List PV) : List PV := cs.take off ++ vs ++ cs.drop (off + vs.length)
def raws (l : List Value) : List PV := l.map .raw
/-- The kinds of an element's cells; an element out of numbers. -/
def ET.kinds : ET → List IntKind
  | .int => [.i64]
  | .u8 => [.u8]
  | .u64 => [.u64]
  | .fix => [.i64, .u64]
  | .vec => [.i64, .u64, .i64, .u64]
  | .body => [.i64, .u64, .i64, .u64, .i64, .u64, .i64, .u64, .i64, .u64, .i64, .u64, .i64, .u64, .i64, .u64, .i64, .u64, .i64, .i64]
  | .tether => [.i64, .i64, .i64, .u64, .i64, .u64]
  | .rail => [.i64, .i64, .u64, .i64, .u64, .i64, .i64, .i64, .i64, .u64]
  | .event => [.i64, .i64, .i64, .i64]
  | .keyed => [.u64, .i64]
  | .node => [.i64, .u64, .i64, .i64, .i64, .i64, .i64, .i64]
  | .cell => [.i64, .u64, .i64, .u64, .i64, .u64, .i64, .u64]
  | .cmd => [.i64, .i64, .i64, .i64, .i64, .u64]
  | .pair => [.i64, .i64]
def mk1 : List Int → Option Int
  | [a] => some a
  | _ => none
def mkFx : List Int → Option Fx
  | [a, b] => some ⟨a, b⟩
  | _ => none
def mkVc : List Int → Option Vc
  | [a, b, c, d] => some ⟨⟨a, b⟩, ⟨c, d⟩⟩
  | _ => none
def mkBody : List Int → Option Body
  | [a0, a1, a2, a3, a4, a5, a6, a7, a8, a9, b0, b1, b2, b3, b4, b5, b6, b7, b8, b9] => some ⟨⟨a0, a1⟩, ⟨a2, a3⟩, ⟨⟨a4, a5⟩, ⟨a6, a7⟩⟩, ⟨⟨a8, a9⟩, ⟨b0, b1⟩⟩, ⟨b2, b3⟩, ⟨b4, b5⟩, ⟨b6, b7⟩, b8, b9⟩
  | _ => none
def mkTether : List Int → Option Tether
  | [a, b, c, d, e, f] => some ⟨a, b, ⟨c, d⟩, ⟨e, f⟩⟩
  | _ => none
def mkRail : List Int → Option Rail
  | [a0, a1, a2, a3, a4, a5, a6, a7, a8, a9] => some ⟨a0, ⟨a1, a2⟩, ⟨a3, a4⟩, a5, a6, a7, ⟨a8, a9⟩⟩
  | _ => none
def mkEvent : List Int → Option Event
  | [a, b, c, d] => some ⟨a, b, c, d⟩
  | _ => none
def mkKeyed : List Int → Option Keyed
  | [a, b] => some ⟨a, b⟩
  | _ => none
def mkNode : List Int → Option Node
  | [a, b, c, d, e, f, g, h] => some ⟨a, b, c, d, e, f, g, h⟩
  | _ => none
def mkCell : List Int → Option Cell
  | [a, b, c, d, e, f, g, h] => some ⟨⟨a, b⟩, ⟨⟨c, d⟩, ⟨e, f⟩⟩, ⟨g, h⟩⟩
  | _ => none
def mkCmd : List Int → Option Cmd
  | [a, b, c, d, e, f] => some ⟨a, b, c, d, ⟨e, f⟩⟩
  | _ => none
def mkPair : List Int → Option Pair
  | [a, b] => some ⟨a, b⟩
  | _ => none
def ET.mk : (t : ET) → List Int → Option t.α
  | .int => mk1
  | .u8 => mk1
  | .u64 => mk1
  | .fix => mkFx
  | .vec => mkVc
  | .body => mkBody
  | .tether => mkTether
  | .rail => mkRail
  | .event => mkEvent
  | .keyed => mkKeyed
  | .node => mkNode
  | .cell => mkCell
  | .cmd => mkCmd
  | .pair => mkPair
def intsOf : List IntKind → List PV → Option (List Int)
  | [], [] => some []
  | k :: ks, .raw (.int k' n) :: r => if k = k' then (intsOf ks r).map (n :: ·) else none
  | _, _ => none
/-- An element out of its cells. -/
def ET.dec (t : ET) (cs : List PV) : Option t.α := match intsOf t.kinds cs with
  | some is => t.mk is
  | none => none

def firstNames : List PV → List Nat
  | v :: _ => v.names
  | [] => []
def footCall : Callee → List PV → (Nat → Option Blk) → List Nat
  | .builtin _, vs, _ => PV.namess vs
  | _, vs, m => reach m 3 (PV.namess vs)
def footOf (o : Oper) (vals : List PV) (m : Nat → Option Blk) : List Nat := match o.op with
  | .load _ _ => firstNames vals
  | .store _ _ _ => firstNames vals
  | .indexAddr _ _ _ => firstNames vals
  | .call c => footCall c.callee vals m
  | _ => []

def optT {α : Type} (n : Nat) : Option α → Tr α
  | some a => .ret a
  | none => .bad n
def putT (v : PV) : Tr Out := .ret { put := v }
/-- '==' of two values of a type. -/
def eqFs (P : Program) (eq : TypeId → PV → PV → Option Bool) (xs ys : List PV) : List Field → Option Bool
  | [] => some true
  | f :: fs => bif f.name == "_" then none else match partPV P f.type xs f.offset, partPV P f.type ys f.offset with
    | some a, some b => match eq f.type a b, eqFs P eq xs ys fs with
      | some r, some s => some (r && s)
      | _, _ => none
    | _, _ => none
def eqB (P : Program) : Nat → TypeId → PV → PV → Option Bool
  | 0, _, _, _ => none
  | n + 1, t, x, y => match P.underlying t, x, y with
    | some .bool, .raw (.bool a), .raw (.bool b) => some (a == b)
    | some (.int _), .raw (.int k a), .raw (.int k' b) => if k = k' then some (a == b) else none
    | some (.struct fs), .agg xs, .agg ys => bif P.stoodInHeld t then none else eqFs P (eqB P n) xs ys fs.toList
    | _, _, _ => none
/-- Cells that hold whole numbers of one kind. -/
def intsK : List PV → Option (IntKind × List Int)
  | [] => none
  | .raw (.int k n) :: r => match r with
    | [] => some (k, [n])
    | _ :: _ => match intsK r with
      | some (k', l) => if k = k' then some (k, n :: l) else none
      | none => none
  | _ => none
/-- A cell at an index that need not be known. -/
def arrPV (P : Program) (t : TypeId) (cs : List PV) (j : Nat) : Tr PV := match intsK cs, tyOf P t with
  | some (k, l), some (false, _) => .chk (Nat.blt j cs.length) (.ret (.int k (l.getD j 0)))
  | _, _ => optT 10 (partPV P t cs j)
def arrSet (cs : List PV) (j : Nat) (vs : List PV) : Tr (List PV) := match intsK cs, vs with
  | some (k, l), [.raw (.int k' x)] => if k = k' then .ret ((List.range cs.length).map fun q => .int k ((l.set j x).getD q 0)) else .ret (patch cs j vs)
  | _, _ => .ret (patch cs j vs)
def coreLoad (P : Program) (t : TypeId) (v : PV) (m : Nat → Option Blk) : Tr PV := match v with
  | .ptr b sz i off => match m b with
    | some (.cells cs _) => bif Nat.beq sz 0 then optT 10 (partPV P t cs (i * sz + off)) else arrPV P t cs (i * sz + off)
    | some (.row _ et l) => bif Nat.beq sz et.size then .chk (Nat.blt i l.length) (optT 11 (partPV P t (raws (et.cells (l.getD i et.dflt))) off)) else .bad 12
    | _ => .bad 13
  | _ => .bad 14
def coreStore (P : Program) (t : TypeId) (v u : PV) (m : Nat → Option Blk) : Tr Out := match v, flat u, tyOf P t with
  | .ptr b sz i off, some vs, some (_, n) => bif Nat.beq vs.length n then match m b with
      | some (.cells cs ty) => bif Nat.beq sz 0 then (bif Nat.ble (i * sz + off + n) cs.length then .ret { put := .raw undef, ups := [(b, .cells (patch cs (i * sz + off) vs) ty)] } else .bad 15)
        else .chk (Nat.ble (i * sz + off + n) cs.length) ((arrSet cs (i * sz + off) vs).bind fun l => .ret { put := .raw undef, ups := [(b, .cells l ty)] })
      | some (.row true et l) => bif Nat.beq sz et.size && Nat.ble (off + n) et.size then .chk (Nat.blt i l.length) (match et.dec (patch (raws (et.cells (l.getD i et.dflt))) off vs) with
        | some x => .ret { put := .raw undef, ups := [(b, .row true et (l.set i x))] }
        | none => .bad 16) else .bad 17
      | _ => .bad 18
    else .bad 19
  | _, _, _ => .bad 20
def fieldOf (P : Program) (t : TypeId) (i : Nat) : Option Field := match P.underlying t with
  | some (.struct fs) => fs[i]?
  | _ => none
def placesOf (P : Program) : List Field → Option (List (Nat × Nat))
  | [] => some []
  | f :: r => match P.info? f.type, placesOf P r with
    | some i, some l => some ((f.offset, i.size) :: l)
    | _, _ => none
def fillPV (pl : List (Nat × Nat)) : List (Nat × PV) → List PV → Option (List PV)
  | [], cs => some cs
  | (i, v) :: r, cs => match pl[i]?, flat v with
    | some (off, n), some vs => bif Nat.beq vs.length n && Nat.ble (off + n) cs.length then fillPV pl r (patch cs off vs) else none
    | _, _ => none
def coreBuild (P : Program) (t : TypeId) (parts : List (Nat × PV)) : Option PV := match P.underlying t, (P.info? t).bind (·.zero) with
  | some (.struct fs), some z => match placesOf P fs.toList with
    | some pl => (fillPV pl parts (raws z.cells.toList)).map .agg
    | none => none
  | _, _ => none
def zeroPV (P : Program) (t : TypeId) : Option (List PV) := ((P.info? t).bind (·.zero)).map fun z => raws z.cells.toList
def one1 : List PV → (PV → Tr Out) → Tr Out
  | [v], k => k v
  | _, _ => .bad 60
def two2 : List PV → (PV → PV → Tr Out) → Tr Out
  | [v, u], k => k v u
  | _, _ => .bad 61
def coreAlloc (P : Program) (nb : Nat) (dst : Option Tmp) (t : TypeId) : Tr Out := match dst, zeroPV P t with
  | some d, some z => .ret { put := .ptr (nb + d) 0 0 0, news := [(nb + d, .cells z t)] }
  | _, _ => .bad 21
def coreBox (nb : Nat) (dst : Option Tmp) (t : TypeId) (v : PV) : Tr Out := match dst, flat v with
  | some d, some cs => .ret { put := .ptr (nb + d) 0 0 0, news := [(nb + d, .cells cs t)] }
  | _, _ => .bad 22
def coreFieldAddr (P : Program) (t : TypeId) (i : Nat) (v : PV) : Tr PV := match v, fieldOf P t i with
  | .ptr b sz j off, some f => match P.info? f.type with
    | some ti => bif Nat.beq ti.size 0 then .bad 23 else .ret (.ptr b sz j (off + f.offset))
    | none => .bad 24
  | _, _ => .bad 25
def coreField (P : Program) (t : TypeId) (i : Nat) (v : PV) : Tr PV := match v, fieldOf P t i with
  | .agg l, some f => optT 26 (partPV P f.type l f.offset)
  | _, _ => .bad 27
def coreExtract (i : Nat) (v : PV) : Tr PV := match v with
  | .tup l => optT 28 l[i]?
  | _ => .bad 28
def coreUn (P : Program) (op : UnOp) (v : PV) : Tr PV := match v with
  | .raw v => match pureRun P (Op.unary op v) with
    | some u => .ret (.raw u)
    | none => .bad 30
  | _ => .bad 30
def coreConvert (P : Program) (a b : TypeId) (v : PV) : Tr PV := match v with
  | .raw v => match pureRun P (convert a b v) with
    | some u => .ret (.raw u)
    | none => .bad 31
  | _ => .bad 31
/-- Two whole numbers of one kind. -/
def coreInts (P : Program) (op : BinOp) (k : IntKind) (x y : Int) : Tr PV := match op with
  | .quo => .chk (y != 0) (.ret (.int k (k.wrap (x.tdiv y))))
  | .rem => .chk (y != 0) (.ret (.int k (x.tmod y)))
  | .add => .ret (.int k (k.wrap (x + y)))
  | .sub => .ret (.int k (k.wrap (x - y)))
  | .mul => .ret (.int k (k.wrap (x * y)))
  | .eql => .ret (.raw (.bool (x == y)))
  | .neq => .ret (.raw (.bool (x != y)))
  | .lss => .ret (.raw (.bool (x < y)))
  | .leq => .ret (.raw (.bool (x ≤ y)))
  | .gtr => .ret (.raw (.bool (x > y)))
  | .geq => .ret (.raw (.bool (x ≥ y)))
  | .and => .ret (.int k (k.wrap (BitVec.ofInt k.bits x &&& BitVec.ofInt k.bits y).toNat))
  | .or => .ret (.int k (k.wrap (BitVec.ofInt k.bits x ||| BitVec.ofInt k.bits y).toNat))
  | .xor => .ret (.int k (k.wrap (BitVec.ofInt k.bits x ^^^ BitVec.ofInt k.bits y).toNat))
  | .andNot => .ret (.int k (k.wrap (BitVec.ofInt k.bits x &&& ~~~ BitVec.ofInt k.bits y).toNat))
  | _ => .bad 44
def coreEq (P : Program) (op : BinOp) (t : TypeId) (x y : PV) : Tr PV := bif P.eqGuardType P.depth t then .bad 45 else match op, eqB P 8 t x y with
  | .eql, some r => .ret (.raw (.bool r))
  | .neq, some r => .ret (.raw (.bool (!r)))
  | _, _ => .bad 46
def coreBin (P : Program) (op : BinOp) (t : TypeId) (x y : PV) : Tr PV := match x, y with
  | .raw (.int k x), .raw (.int k' y) => match op with
    | .shl => .chk (decide (0 ≤ y)) (.ret (.int k (k.wrap (x * 2 ^ min y.toNat k.bits))))
    | .shr => .chk (decide (0 ≤ y)) (.ret (.int k (x.fdiv (2 ^ min y.toNat k.bits))))
    | op => if k = k' then coreInts P op k x y else .bad 32
  | .raw (.bool a), .raw (.bool b) => coreEq P op t (.raw (.bool a)) (.raw (.bool b))
  | .agg xs, .agg ys => coreEq P op t (.agg xs) (.agg ys)
  | .sl b _, .raw (.slice none 0 0) => match op, P.underlying t with
    | .eql, some (.slice _) => .ret (.isnil b false)
    | .neq, some (.slice _) => .ret (.isnil b true)
    | _, _ => .bad 33
  | _, _ => .bad 34
def corePick : List PV → Tr PV
  | [.raw (.bool c), .raw (.bool x), .raw (.bool y)] => .ret (.raw (.bool (bif c then x else y)))
  | [.raw (.bool c), x, y] => bif c then .ret x else .ret y
  | _ => .bad 35
def coreNil : PV → Tr PV
  | .ptr b sz i off => .ret (.ptr b sz i off)
  | .clo f caps => .ret (.clo f caps)
  | _ => .bad 36
def coreIndexAddr (P : Program) (t : TypeId) (m : Nat → Option Blk) (v u : PV) : Tr PV := match v, u, P.underlying t with
  | .sl b sz, .raw (.int _ i), some (.slice e) => match m b, P.info? e with
    | some (.row _ et l), some ei => bif Nat.beq ei.size sz && Nat.beq sz et.size then .chk (decide (0 ≤ i) && decide (i < (l.length : Int))) (.ret (.ptr b sz i.toNat 0)) else .bad 48
    | _, _ => .bad 49
  | .ptr b sz j off, .raw (.int _ i), some (.array n e) => match P.info? e with
    | some ei => bif Nat.beq sz 0 && !Nat.beq ei.size 0 then .chk (decide (0 ≤ i) && decide (i < (n : Int))) (.ret (.ptr b ei.size i.toNat off)) else .bad 50
    | none => .bad 50
  | _, _, _ => .bad 50
def coreIndex (P : Program) (t : TypeId) (v u : PV) : Tr PV := match v, u, P.underlying t with
  | .agg l, .raw (.int _ i), some (.array n e) => match P.info? e with
    | some ei => .chk (decide (0 ≤ i) && decide (i < (n : Int))) (arrPV P e l (i.toNat * ei.size))
    | none => .bad 59
  | _, _, _ => .bad 59
def coreBuiltin (P : Program) (b : Builtin) (ts : Array TypeId) (vs : List PV) (m : Nat → Option Blk) : Tr PV := match b with
  | .len => match vs, (ts[0]?).bind P.underlying with
    | [.sl b _], some (.slice _) => match m b with
      | some (.row _ _ l) => .ret (.int .i64 (l.length : Int))
      | _ => .bad 51
    | [.raw (.slice none 0 0)], some (.slice _) => .ret (.int .i64 0)
    | _, _ => .bad 52
  | .max => match vs with
    | [.raw (.int k x), .raw (.int _ y)] => .ret (.int k (if y > x then y else x))
    | _ => .bad 53
  | .min => match vs with
    | [.raw (.int k x), .raw (.int _ y)] => .ret (.int k (if y < x then y else x))
    | _ => .bad 54
  | _ => .bad 55
def coreCall (O : Orc) (nb : Nat) (dst : Option Tmp) (vs : List PV) (m : Nat → Option Blk) : Tr Out := match dst, vs with
  | some d, .clo f caps :: args => match O.call f with
    | some M => M (nb + d) (args ++ caps) m
    | none => match O.ext f with
      | some M => (M (args ++ caps)).bind putT
      | none => .bad (1000 + f)
  | _, _ => .bad 56
/-- Elements out of values. -/
def elems (et : ET) : List PV → Option (List et.α)
  | [] => some []
  | v :: r => match flat v with
    | some cs => match et.dec cs, elems et r with
      | some x, some l => some (x :: l)
      | _, _ => none
    | none => none
def sliceOf (P : Program) (O : Orc) (t : TypeId) : Option (ET × TypeInfo) := match P.underlying t with
  | some (.slice e) => match O.et e, P.info? e with
    | some et, some i => bif Nat.beq i.size et.size then some (et, i) else none
    | _, _ => none
  | _ => none
def zeroEl (i : TypeInfo) (et : ET) : Option et.α := match i.zero with
  | some z => et.dec (raws z.cells.toList)
  | none => none
def coreLit (P : Program) (O : Orc) (nb : Nat) (dst : Option Tmp) (t : TypeId) (len : Nat) (idx : List Nat) (vals : List PV) : Tr Out := match dst, sliceOf P O t with
  | some d, some (et, i) => match elems et vals with
    | some l => bif (zeroEl i et).isSome && Nat.beq len vals.length && idx == List.range len && Nat.ble (len * et.size) 16777216 then .ret { put := .sl (nb + d) et.size, news := [(nb + d, .row true et l)] } else .bad 62
    | none => .bad 63
  | _, _ => .bad 64
def coreMake (P : Program) (O : Orc) (nb : Nat) (dst : Option Tmp) (t : TypeId) (v u : PV) : Tr Out := match dst, sliceOf P O t, v, u with
  | some d, some (et, i), .raw (.int _ n), .raw (.int _ c) => match zeroEl i et with
    | some z => .chk (decide (0 ≤ n) && decide (n ≤ c) && decide ((i.bytes : Int) * c ≤ 281474976710656) && decide (c ≤ 1000000000000000000)) (.ret { put := .sl (nb + d) et.size, news := [(nb + d, .row true et (List.replicate n.toNat z))] })
    | none => .bad 65
  | _, _, _, _ => .bad 66
/-- What is appended to: its name, if it has one, and what it holds. -/
def baseOf (m : Nat → Option Blk) (et : ET) : PV → Option (List (Nat × Blk) × List et.α)
  | .raw (.slice none 0 0) => some ([], [])
  | .sl b sz => match m b with
    | some (.row true t l) => if h : t = et then some ([(b, .gone)], h ▸ l) else none
    | _ => none
  | _ => none
def moreOf (m : Nat → Option Blk) (et : ET) : PV → Option (List et.α)
  | .sl b sz => match m b with
    | some (.row _ t l) => if h : t = et then some (h ▸ l) else none
    | _ => none
  | _ => none
def coreAppend (P : Program) (O : Orc) (nb : Nat) (dst : Option Tmp) (ts : List TypeId) (v u : PV) (m : Nat → Option Blk) : Tr Out := match dst, ts with
  | some d, [t, t'] => bif Nat.beq t t' then match sliceOf P O t with
    | some (et, i) => match baseOf m et v, moreOf m et u, zeroEl i et with
      | some (ups, l), some k, some _ => bif Nat.blt 0 i.bytes then .chk (Nat.ble ((l.length + k.length) * i.bytes) 140737488355328) (.ret { put := .sl (nb + d) et.size, news := [(nb + d, .row true et (l ++ k))], ups := ups }) else .bad 67
      | _, _, _ => .bad 68
    | none => .bad 69
    else .bad 69
  | _, _ => .bad 69
def coreFunc (fn : Fn) (bare : Bool) (vals : List PV) : Tr Out := match fn with
  | .func f => bif bare then putT (.clo f vals) else .bad 47
  | _ => .bad 47
def coreAny (P : Program) (O : Orc) (nb : Nat) (dst : Option Tmp) (c : Callee) (ts : Array TypeId) (vals : List PV) (m : Nat → Option Blk) : Tr Out := match c with
  | .builtin .append => two2 vals fun v u => coreAppend P O nb dst ts.toList v u m
  | .builtin b => (coreBuiltin P b ts vals m).bind putT
  | .value _ => coreCall O nb dst vals m
  | .invoke _ _ => .bad 58
def core (P : Program) (O : Orc) (nb : Nat) (o : Oper) (vals : List PV) (m : Nat → Option Blk) : Tr Out := match o.op with
  | .move _ => one1 vals putT
  | .assign _ => one1 vals putT
  | .alloc t => coreAlloc P nb o.dst t
  | .box t _ => one1 vals (coreBox nb o.dst t)
  | .load t _ => one1 vals fun v => (coreLoad P t v m).bind putT
  | .store t _ _ => two2 vals fun v u => coreStore P t v u m
  | .fieldAddr t _ i => one1 vals fun v => (coreFieldAddr P t i v).bind putT
  | .field t _ i => one1 vals fun v => (coreField P t i v).bind putT
  | .extract _ i => one1 vals fun v => (coreExtract i v).bind putT
  | .build t ps => (optT 29 (coreBuild P t ((ps.toList.map (·.1)).zip vals))).bind putT
  | .unOp op _ _ => one1 vals fun v => (coreUn P op v).bind putT
  | .convert a b _ => one1 vals fun v => (coreConvert P a b v).bind putT
  | .binOp op t _ _ _ => two2 vals fun x y => (coreBin P op t x y).bind putT
  | .pick _ _ _ => (corePick vals).bind putT
  | .nilCheck _ => one1 vals fun v => (coreNil v).bind putT
  | .makeFunc fn first _ => coreFunc fn first.isEmpty vals
  | .indexAddr t _ _ => two2 vals fun v u => (coreIndexAddr P t m v u).bind putT
  | .index t _ _ => two2 vals fun v u => (coreIndex P t v u).bind putT
  | .buildSlice t n ps => coreLit P O nb o.dst t n (ps.toList.map (·.1)) vals
  | .makeSlice t _ _ => two2 vals fun v u => coreMake P O nb o.dst t v u
  | .call c => coreAny P O nb o.dst c.callee c.argTypes vals m
  | _ => .bad 57
def mkDoer (P : Program) (O : Orc) (nb k : Nat) : Doer := { foot := footOf, core := core P O (nb + k * 1000), fuel := O.fuel, hint := O.hint }

theorem reach_sub {m : Nat → Option Blk} : ∀ {n : Nat} {l : List Nat}, ∀ b ∈ l, b ∈ reach m n l
  | 0, _, b, h => h
  | n + 1, _, b, h => List.mem_append_left _ h
theorem reach_local {m m' : Nat → Option Blk} : ∀ (n : Nat) (l : List Nat), (∀ b ∈ reach m n l, m' b = m b) → reach m' n l = reach m n l
  | 0, _, _ => rfl
  | n + 1, l, h => by
    simp only [reach]
    have e : l.flatMap (namesIn m') = l.flatMap (namesIn m) := by
      rw [List.flatMap_def, List.flatMap_def]
      congr 1
      refine List.map_congr_left (fun b hb => ?_)
      unfold namesIn
      rw [h b (List.mem_append_left _ hb)]
    rw [e, reach_local n _ (fun b hb => h b (List.mem_append_right _ hb))]
theorem mkDoer_local (P : Program) (O : Orc) (nb k : Nat) : (mkDoer P O nb k).Local := by
  intro o vals m m' h
  show footOf o vals m' = footOf o vals m
  have h : ∀ n ∈ footOf o vals m, m' n = m n := h
  unfold footOf at *
  cases ho : o.op with
  | call c =>
    rw [ho] at h
    simp only at h ⊢
    cases hc : c.callee with
    | builtin b => rfl
    | value f => rw [hc] at h; exact reach_local 3 _ h
    | invoke r n => rw [hc] at h; exact reach_local 3 _ h
  | _ => rfl
end Go.Proofs.YtpbklojdmkpkcaaDoor
/- The evaluator: what it tells of each operation is so. -/
namespace Go.Proofs.YtpbklojdmkpkcaaDoor
open Go Go.RowKit
set_option linter.unusedVariables false
set_option linter.unusedSimpArgs false

@[simp] theorem run_ret {α : Type} (a : α) : (Tr.ret a).run = some a := rfl
@[simp] theorem run_bad {α : Type} (n : Nat) : (Tr.bad n : Tr α).run = none := rfl
@[simp] theorem run_optT {α : Type} (n : Nat) (x : Option α) : (optT n x).run = x := by cases x <;> rfl
@[simp] theorem run_putT (v : PV) : (putT v).run = some { put := v } := rfl
theorem run_need {α : Type} {p : Prop} {t : Tr α} {a : α} (h : (Tr.need p t).run = some a) : p ∧ t.run = some a := by
  simp only [Tr.run] at h
  split at h
  · exact ⟨‹_›, h⟩
  · cases h
theorem run_chk {α : Type} {c : Bool} {t : Tr α} {a : α} (h : (Tr.chk c t).run = some a) : c = true ∧ t.run = some a := by
  simp only [Tr.run] at h
  cases c
  · cases h
  · exact ⟨rfl, h⟩
theorem bind_putT {x : Tr PV} {out : Out} (h : (x.bind putT).run = some out) : ∃ v, x.run = some v ∧ out = { put := v } := by
  rw [Tr.run_bind, Option.bind_eq_some_iff] at h
  obtain ⟨v, h1, h2⟩ := h
  exact ⟨v, h1, (Option.some.inj h2).symm⟩
theorem restr_sub {m : Nat → Option Blk} {R : List Nat} {b : Nat} {k : Blk} (h : restr m R b = some k) : m b = some k := by
  unfold restr at h
  cases hb : has R b <;> rw [hb] at h
  · cases h
  · exact h
theorem pureRun_run {P : Program} {α : Type} {w : World} : ∀ {x : Sem α} {a : α}, pureRun P x = some a → x.run P w = .ok a w
  | .pure a, b, h => by simp only [pureRun, Option.some.injEq] at h; subst h; rfl
  | .program k, b, h => pureRun_run (x := k P) h
  | .mark _ k, b, h => pureRun_run (x := k) h
  | .load _ _ _, _, h => by cases h
  | .store _ _ _ _, _, h => by cases h
  | .new _ _, _, h => by cases h
  | .shape _ _, _, h => by cases h
  | .freeze _ _ _, _, h => by cases h
  | .frozen _ _, _, h => by cases h
  | .getObj _ _, _, h => by cases h
  | .setObj _ _ _, _, h => by cases h
  | .choose _ _, _, h => by cases h
  | .sys _ _, _, h => by cases h
  | .halt _, _, h => by cases h

section
variable {P : Program} {tid : ET → TypeId} {B : Nat} {E : Env} {m : Nat → Option Blk} {w : World}
theorem tyOf_run {t : TypeId} {b : Bool} {n : Nat} (h : tyOf P t = some (b, n)) : (isAgg t).run P w = .ok b w ∧ (sizeOf t).run P w = .ok n w ∧ ∃ i, P.info? t = some i ∧ i.size = n := by
  unfold tyOf at h
  split at h
  · rename_i fs i h1 h2
    simp only [Option.some.injEq, Prod.mk.injEq] at h
    obtain ⟨rfl, rfl⟩ := h
    exact ⟨by simp [isAgg, run_underlying h1], by simp [sizeOf, typeInfo, h2], i, h2, rfl⟩
  · rename_i i h1 h2
    simp only [Option.some.injEq, Prod.mk.injEq] at h
    obtain ⟨rfl, rfl⟩ := h
    exact ⟨by simp [isAgg, run_underlying h1], by simp [sizeOf, typeInfo, h2], i, h2, rfl⟩
  · rename_i d i hn1 hn2 h1 h2
    simp only [Option.some.injEq, Prod.mk.injEq] at h
    obtain ⟨rfl, rfl⟩ := h
    refine ⟨?_, by simp [sizeOf, typeInfo, h2], i, h2, rfl⟩
    simp only [isAgg, Sem.run_bind, run_underlying h1, Result.andThen_ok]
    cases d <;> first | rfl | (exfalso; exact hn1 _ _ h1 h2) | (exfalso; exact hn2 _ _ _ h1 h2)
  · cases h
theorem addr_add (k q j : Nat) : (⟨k, q, none⟩ : Addr).add j = ⟨k, q + j, none⟩ := by
  unfold Addr.add; split <;> simp_all
theorem embs_get (E : Env) (l : List PV) (j : Nat) : (PV.embs E l)[j]? = (l[j]?).map (PV.emb E) := by rw [embs_map, List.getElem?_map]
theorem embs_length (E : Env) (l : List PV) : (PV.embs E l).length = l.length := by rw [embs_map, List.length_map]
/-- A part of cells that are known, read. -/
theorem partPV_load {t : TypeId} {cs : List PV} {p : Nat} {u : PV} {k q0 : Nat} (h : partPV P t cs p = some u) (hc : ∀ j v, (PV.embs E cs)[j]? = some v → w.cell? ⟨k, q0 + j, none⟩ = some v) :
    (loadVar t ⟨k, q0 + p, none⟩).run P w = .ok (u.emb E) w := by
  unfold partPV at h
  split at h
  · rename_i n ht
    cases hb : Nat.ble (p + n) cs.length <;> rw [hb] at h
    · cases h
    · simp only [cond_true, Option.some.injEq] at h
      subst h
      rw [Nat.ble_eq] at hb
      obtain ⟨t1, t2, _⟩ := tyOf_run (w := w) ht
      have hl : (PV.embs E ((cs.drop p).take n)).length = n := by rw [embs_length]; simp; omega
      have := run_loadCells_list (P := P) w ⟨k, q0 + p, none⟩ (PV.embs E ((cs.drop p).take n)) (fun j v hj => by
        rw [addr_add]
        rw [embs_get] at hj
        rw [show q0 + p + j = q0 + (p + j) from by omega]
        refine hc (p + j) v ?_
        rw [embs_get]
        rw [List.getElem?_take] at hj
        split at hj
        · rwa [List.getElem?_drop] at hj
        · cases hj)
      rw [hl] at this
      simp only [loadVar, Sem.run_bind, t1, Result.andThen_ok, if_true, t2, this, Sem.run_pure, PV.emb]
  · rename_i n ht
    obtain ⟨t1, t2, _⟩ := tyOf_run (w := w) ht
    have := hc p (u.emb E) (by rw [embs_get, h]; rfl)
    simp [loadVar, t1, this]
  · cases h
theorem partPV_part {t : TypeId} {cs : List PV} {p : Nat} {u : PV} (h : partPV P t cs p = some u) : (part t (PV.embs E cs).toArray p).run P w = .ok (u.emb E) w := by
  unfold partPV at h
  split at h
  · rename_i n ht
    cases hb : Nat.ble (p + n) cs.length <;> rw [hb] at h
    · cases h
    · simp only [cond_true, Option.some.injEq] at h
      subst h
      obtain ⟨t1, t2, _⟩ := tyOf_run (w := w) ht
      simp only [part, Sem.run_bind, t1, Result.andThen_ok, if_true, t2, Sem.run_pure, PV.emb]
      congr 2
      rw [embs_map, embs_map]
      simp [List.extract_eq_take_drop, List.map_take, List.map_drop]
  · rename_i n ht
    obtain ⟨t1, t2, _⟩ := tyOf_run (w := w) ht
    have : (PV.embs E cs).toArray[p]? = some (u.emb E) := by rw [List.getElem?_toArray, embs_get, h]; rfl
    simp [part, t1, this]
  · cases h
theorem one_emb {v : PV} (h : v.one = true) : (v.emb E).oneCell' = true ∧ (v.emb E).cells = #[v.emb E] := by
  cases v with
  | raw v => cases v <;> first | exact ⟨rfl, rfl⟩ | cases h
  | ptr b sz i off => exact ⟨rfl, rfl⟩
  | sl b sz => simp only [PV.emb]; split <;> exact ⟨rfl, rfl⟩
  | agg l => cases h
  | tup l => cases h
  | clo f c => exact ⟨rfl, rfl⟩
  | isnil b n => exact ⟨rfl, rfl⟩
theorem flat_emb {v : PV} {vs : List PV} (h : flat v = some vs) : (v.emb E).cells = (PV.embs E vs).toArray ∧ ∀ u ∈ PV.embs E vs, u.oneCell' = true := by
  have single : ∀ x : PV, (bif x.one then some [x] else none) = some vs → (x.emb E).cells = (PV.embs E vs).toArray ∧ ∀ u ∈ PV.embs E vs, u.oneCell' = true := by
    intro x h
    cases ho : x.one <;> rw [ho] at h
    · cases h
    · simp only [cond_true, Option.some.injEq] at h
      subst h
      obtain ⟨h1, h2⟩ := one_emb (E := E) ho
      exact ⟨by rw [h2]; rfl, fun u hu => by simp [PV.embs] at hu; subst hu; exact h1⟩
  cases v with
  | agg l =>
    simp only [flat] at h
    cases ho : l.all PV.one <;> rw [ho] at h
    · cases h
    · simp only [cond_true, Option.some.injEq] at h
      subst h
      refine ⟨rfl, fun u hu => ?_⟩
      rw [embs_map] at hu
      obtain ⟨x, hx, rfl⟩ := List.mem_map.1 hu
      exact (one_emb (List.all_eq_true.1 ho x hx)).1
  | _ => exact single _ h
theorem flat_names {v : PV} {vs : List PV} (h : flat v = some vs) : PV.namess vs = v.names := by
  have single : ∀ x : PV, (bif x.one then some [x] else none) = some vs → PV.namess vs = x.names := by
    intro x h
    cases ho : x.one <;> rw [ho] at h
    · cases h
    · simp only [cond_true, Option.some.injEq] at h
      subst h; simp [PV.namess]
  cases v with
  | agg l =>
    simp only [flat] at h
    cases ho : l.all PV.one <;> rw [ho] at h
    · cases h
    · simp only [cond_true, Option.some.injEq] at h
      subst h; rfl
  | _ => exact single _ h
theorem raws_emb (E : Env) (l : List Value) : PV.embs E (raws l) = l := by
  rw [embs_map]; unfold raws; rw [List.map_map]; simp [Function.comp_def, PV.emb]
def intCells : List IntKind → List Int → List Value
  | k :: ks, n :: ns => .int k n :: intCells ks ns
  | _, _ => []
theorem intsOf_cells : ∀ {ks : List IntKind} {cs : List PV} {is : List Int}, intsOf ks cs = some is → cs = raws (intCells ks is)
  | [], [], is, h => by simp only [intsOf, Option.some.injEq] at h; subst h; rfl
  | k :: ks, c :: r, is, h => by
    unfold intsOf at h
    split at h
    · cases ‹_ :: _ = []›
    · rename_i k1 ks1 k' n r1 e1 e2
      cases e1; cases e2
      split at h
      · rename_i hk
        subst hk
        obtain ⟨js, hj, rfl⟩ := Option.map_eq_some_iff.1 h
        rw [intsOf_cells hj]; rfl
      · cases h
    · cases h
  | [], _ :: _, _, h => by simp [intsOf] at h
  | _ :: _, [], _, h => by simp [intsOf] at h
theorem mk_cells (t : ET) (is : List Int) (x : t.α) (h : t.mk is = some x) : intCells t.kinds is = t.cells x := by
  cases t <;> simp only [ET.mk, mk1, mkFx, mkVc, mkBody, mkTether, mkRail, mkEvent, mkKeyed, mkNode, mkCell, mkCmd, mkPair] at h <;> (split at h <;> first | (cases h; rfl) | (cases h))
theorem dec_cells (t : ET) (cs : List PV) (x : t.α) (h : t.dec cs = some x) : cs = raws (t.cells x) := by
  unfold ET.dec at h
  split at h
  · rename_i is hi
    rw [intsOf_cells hi, mk_cells t is x h]
  · cases h
/-- The cell of a flat list. -/
theorem flat_get (et : ET) : ∀ (l : List et.α) (i j : Nat), i < l.length → j < et.size → (l.flatMap et.cells)[i * et.size + j]? = (et.cells (l.getD i et.dflt))[j]?
  | [], i, j, hi, _ => by simp at hi
  | x :: r, 0, j, hi, hj => by
    rw [List.flatMap_cons, Nat.zero_mul, Nat.zero_add, List.getElem?_append_left (by rw [ET.cells_length]; exact hj)]
    rfl
  | x :: r, i + 1, j, hi, hj => by
    rw [List.flatMap_cons, List.getElem?_append_right (by rw [ET.cells_length, Nat.add_mul]; omega), ET.cells_length]
    rw [show (i + 1) * et.size + j - et.size = i * et.size + j from by rw [Nat.add_mul]; omega]
    rw [flat_get et r i j (by simpa using hi) hj]
    rfl
theorem row_cell {b : Nat} {own : Bool} {et : ET} {l : List et.α} {i : Nat} (h : RowOk tid B E w b own et l) (hi : i < l.length) : ∃ k f, E.at_ b = some (k, f) ∧ l.length = E.len b ∧ l.length ≤ E.cap b ∧
    ∀ j v, (et.cells (l.getD i et.dflt))[j]? = some v → w.cell? ⟨k, f + (i * et.size + j), none⟩ = some v := by
  unfold RowOk at h
  split at h
  · subst h; simp at hi
  · rename_i k f hk
    obtain ⟨h1, h2, h3, _⟩ := h
    refine ⟨k, f, hk, h1, h2, fun j v hv => ?_⟩
    have hj : j < et.size := by
      have := (List.getElem?_eq_some_iff.1 hv).1
      rwa [ET.cells_length] at this
    have hlt : i * et.size + j < l.length * et.size := by
      have : (i + 1) * et.size ≤ l.length * et.size := Nat.mul_le_mul_right _ hi
      rw [Nat.add_mul] at this; omega
    rw [h3 _ hlt]
    rw [flat_get et l i j hi hj]
    exact hv
theorem intsK_ok : ∀ {cs : List PV} {k : IntKind} {l : List Int}, intsK cs = some (k, l) → cs = l.map (fun n => PV.int k n)
  | [.raw (.int k n)], k', l, h => by
    simp only [intsK, Option.some.injEq, Prod.mk.injEq] at h
    obtain ⟨rfl, rfl⟩ := h; rfl
  | .raw (.int k n) :: c :: r, k', l, h => by
    have h : (match intsK (c :: r) with
      | some (k', l) => if k = k' then some (k, n :: l) else none
      | none => none) = some (k', l) := by rw [← h]; rfl
    split at h
    · rename_i k2 l2 h2
      split at h
      · rename_i hk
        subst hk
        cases h
        rw [intsK_ok h2]; rfl
      · cases h
    · cases h
  | [], _, _, h => by cases h
theorem arr_get {l : List Int} {k : IntKind} {j : Nat} (h : j < l.length) : (l.map (fun n => PV.int k n))[j]? = some (PV.int k (l.getD j 0)) := by
  rw [List.getElem?_map, List.getElem?_eq_getElem h]
  simp [List.getD, h]
theorem arrPV_run {t : TypeId} {cs : List PV} {j : Nat} {u : PV} (h : (arrPV P t cs j).run = some u) : partPV P t cs j = some u := by
  unfold arrPV at h
  split at h
  · rename_i k l n hk ht
    obtain ⟨hj, h⟩ := run_chk h
    rw [Nat.blt_eq] at hj
    simp only [run_ret, Option.some.injEq] at h
    subst h
    have e := intsK_ok hk
    subst e
    unfold partPV
    rw [ht]
    exact arr_get (by simpa using hj)
  · rwa [run_optT] at h
theorem arrSet_run {cs vs r : List PV} {j n : Nat} (hn : vs.length = n) (hl : j + n ≤ cs.length) (h : (arrSet cs j vs).run = some r) : r = patch cs j vs := by
  unfold arrSet at h
  split at h
  · rename_i k l k' x hk
    split at h
    · rename_i hkk
      subst hkk
      simp only [run_ret, Option.some.injEq] at h
      subst h
      have e := intsK_ok hk
      subst e
      subst hn
      simp only [List.length_map, List.length_cons, List.length_nil] at hl
      apply List.ext_getElem?
      intro q
      unfold patch
      simp only [List.length_map, List.length_cons, List.length_nil]
      by_cases hq : q < l.length
      · rw [List.getElem?_map, List.getElem?_range hq]
        simp only [Option.map_some]
        have hlen : (List.take j (l.map (fun n => PV.int k n)) ++ [PV.raw (Value.int k x)]).length = j + 1 := by simp; omega
        rcases Nat.lt_trichotomy q j with h1 | h1 | h1
        · rw [List.append_assoc, List.getElem?_append_left (by simp; omega), List.getElem?_take, if_pos h1, arr_get hq]
          simp [List.getD, Nat.ne_of_gt h1]
        · subst h1
          rw [List.append_assoc, List.getElem?_append_right (by simp; omega)]
          simp [List.getD, Nat.min_eq_left (Nat.le_of_lt hq), hq]
        · rw [List.getElem?_append_right (by rw [hlen]; omega), hlen, List.getElem?_drop, show j + (0 + 1) + (q - (j + 1)) = q from by omega, arr_get hq]
          simp [List.getD, Nat.ne_of_lt h1]
      · rw [List.getElem?_eq_none (by simp; omega), List.getElem?_eq_none (by simp; omega)]
    · cases h; rfl
  · cases h; rfl
theorem load_run {t : TypeId} {v u : PV} {R : List Nat} (hM : MemRel tid B E m w) (h : (coreLoad P t v (restr m R)).run = some u) : (Instr.loadAt t (v.emb E)).run P w = .ok (u.emb E) w := by
  unfold coreLoad at h
  split at h
  · rename_i b sz i off
    split at h
    · rename_i cs ty hb
      have h : partPV P t cs (i * sz + off) = some u := by
        cases hs : Nat.beq sz 0 <;> rw [hs] at h
        · exact arrPV_run h
        · simpa using h
      obtain ⟨k, hk, _, hw⟩ := hM.blk b _ (restr_sub hb)
      have := partPV_load (w := w) (k := k) (q0 := 0) (E := E) h (fun j v hj => by
        simp only [World.cell?, hw, Nat.zero_add]
        simpa using hj)
      simp only [Instr.loadAt, PV.emb, hk, Option.getD_some, Instr.sureAddr, Sem.run_bind, Sem.run_pure, Result.andThen_ok]
      exact this
    · rename_i own et l hb
      cases hs : Nat.beq sz et.size <;> rw [hs] at h
      · cases h
      · simp only [cond_true] at h
        obtain ⟨hi, h⟩ := run_chk h
        rw [Nat.blt_eq] at hi
        rw [run_optT] at h
        have hsz : sz = et.size := Nat.beq_eq ▸ hs
        obtain ⟨k, f, hk, _, _, hc⟩ := row_cell (hM.blk b _ (restr_sub hb)) hi
        have := partPV_load (w := w) (k := k) (q0 := f + i * sz) (E := E) h (fun j v hj => by
          rw [raws_emb] at hj
          have := hc j v hj
          rwa [← Nat.add_assoc, ← hsz] at this)
        simp only [Instr.loadAt, PV.emb, hk, Option.getD_some, Instr.sureAddr, Sem.run_bind, Sem.run_pure, Result.andThen_ok]
        rwa [Nat.add_assoc] at this
    · cases h
  · cases h
end
end Go.Proofs.YtpbklojdmkpkcaaDoor
/- The evaluator: what is made, what is turned; all operations. -/
namespace Go.Proofs.YtpbklojdmkpkcaaDoor
open Go Go.RowKit
set_option linter.unusedVariables false
set_option linter.unusedSimpArgs false
section
variable {P : Program} {tid : ET → TypeId} {B : Nat} {E E' : Env} {m : Nat → Option Blk} {w w' : World}
theorem own_at {b : Nat} {k : Blk} (h : BlkOk tid B E w b k) (ho : k.own = true) {i f : Nat} (ha : E.at_ b = some (i, f)) : B ≤ i ∧ f = 0 ∧ ∃ c t, w.heap[i]? = some (.cells c t (0, 0)) := by
  cases k with
  | cells cs ty =>
    obtain ⟨k, h1, h2, h3⟩ := h
    rw [ha] at h1; cases h1
    exact ⟨h2, rfl, _, _, h3⟩
  | row own t l =>
    unfold BlkOk RowOk at h
    rw [ha] at h
    obtain ⟨_, _, _, _, h4⟩ := h
    obtain ⟨h5, h6, _, arr, h7, _⟩ := h4 ho
    exact ⟨h5, h6, _, _, h7⟩
  | gone => cases ho
/-- What lies under a name stays, where its block stays. -/
theorem BlkOk.keep {b : Nat} {k : Blk} (h : BlkOk tid B E w b k) (he : E'.at_ b = E.at_ b ∧ E'.len b = E.len b ∧ E'.cap b = E.cap b) (hn : ∀ n ∈ k.names, E'.at_ n = E.at_ n ∧ E'.len n = E.len n ∧ E'.cap n = E.cap n)
    (hw : ∀ i f, E.at_ b = some (i, f) → w'.heap[i]? = w.heap[i]?) : BlkOk tid B E' w' b k := by
  cases k with
  | cells cs ty =>
    obtain ⟨k, h1, h2, h3⟩ := h
    refine ⟨k, by rw [he.1]; exact h1, h2, ?_⟩
    rw [hw k 0 h1, h3, PV.embs_congr cs hn]
  | row own t l =>
    have h : RowOk tid B E w b own t l := h
    show RowOk tid B E' w' b own t l
    unfold RowOk at h ⊢
    rw [he.1, he.2.1, he.2.2]
    split at h
    · exact h
    · rename_i k f hk
      obtain ⟨h1, h2, h3, h4, h5⟩ := h
      refine ⟨h1, h2, fun j hj => ?_, h4, fun ho => ?_⟩
      · rw [World.cell?_of_block (w := w) (by exact hw k f hk)]; exact h3 j hj
      · obtain ⟨h6, h7, h7c, arr, h8, h9⟩ := h5 ho
        exact ⟨h6, h7, h7c, arr, by rw [hw k f hk]; exact h8, h9⟩
  | gone => trivial
theorem agree_names {k : Blk} (hA : Agree E E' m) (h : ∀ n ∈ k.names, (m n).isSome = true) : ∀ n ∈ k.names, E'.at_ n = E.at_ n ∧ E'.len n = E.len n ∧ E'.cap n = E.cap n := fun n hn => hA n (h n hn)
/-- One block more, or more. -/
theorem MemRel.more (h : MemRel tid B E m w) (hB : B ≤ w.heap.size) (hA : Agree E E' m) (hw : ∀ i, i < w.heap.size → w'.heap[i]? = w.heap[i]?) (news : List (Nat × Blk)) (hf : ∀ b ∈ news.map (·.1), m b = none)
    (hn : ∀ u ∈ news, ∀ n ∈ u.2.names, (m n).isSome = true ∨ n ∈ news.map (·.1)) (hnd : (news.map (·.1)).Nodup)
    (hk : ∀ u ∈ news, BlkOk tid B E' w' u.1 u.2 ∧ (u.2.own = true → ∀ i f, E'.at_ u.1 = some (i, f) → w.heap.size ≤ i))
    (hap : ∀ u ∈ news, ∀ v ∈ news, u.1 ≠ v.1 → u.2.own = true → v.2.own = true → ∀ i j f g, E'.at_ u.1 = some (i, f) → E'.at_ v.1 = some (j, g) → i ≠ j) : MemRel tid B E' (upds m news) w' := by
  have old : ∀ b k, m b = some k → BlkOk tid B E' w' b k := by
    intro b k hb
    by_cases hg : k = .gone
    · subst hg; trivial
    refine (h.blk b k hb).keep (hA b (by rw [hb]; rfl)) (agree_names hA (h.ok b k hb)) (fun i f hi => hw i ?_)
    have hbk := h.blk b k hb
    cases ho : k.own
    · cases k with
      | cells _ _ => cases ho
      | gone => exact absurd rfl hg
      | row own t l =>
        have ho : own = false := ho
        unfold BlkOk RowOk at hbk
        rw [hi] at hbk
        exact Nat.lt_of_lt_of_le (hbk.2.2.2.1 ho) hB
    · obtain ⟨_, _, c, t, hh⟩ := own_at hbk ho hi
      exact (Array.getElem?_eq_some_iff.1 hh).1
  have cases_ : ∀ (l : List (Nat × Blk)) (f : Nat → Option Blk) (b : Nat) (k : Blk), (l.map (·.1)).Nodup → upds f l b = some k → (b, k) ∈ l ∨ (b ∉ l.map (·.1) ∧ f b = some k) := by
    intro l
    induction l with
    | nil => intro f b k _ hb; exact .inr ⟨by simp, hb⟩
    | cons x r ih =>
      intro f b k hnd hb
      simp only [List.map_cons, List.nodup_cons] at hnd
      rcases ih _ b k hnd.2 hb with h | ⟨h1, h2⟩
      · exact .inl (by simp [h])
      · by_cases hx : b = x.1
        · subst hx
          rw [upd_same] at h2
          cases h2
          exact .inl (by simp)
        · rw [upd_ne _ _ hx] at h2
          exact .inr ⟨by simp only [List.map_cons, List.mem_cons, not_or]; exact ⟨hx, h1⟩, h2⟩
  have loc : ∀ b k i f, m b = some k → k.own = true → E'.at_ b = some (i, f) → i < w.heap.size := by
    intro b k i f hb ho hi
    rw [(hA b (by rw [hb]; rfl)).1] at hi
    obtain ⟨_, _, c, t, hh⟩ := own_at (h.blk b k hb) ho hi
    exact (Array.getElem?_eq_some_iff.1 hh).1
  have dom : ∀ n, (m n).isSome = true ∨ n ∈ news.map (·.1) → (upds m news n).isSome = true := fun n hn => by rw [upds_some, Bool.or_eq_true, has_iff]; exact hn
  refine ⟨fun b k hb => ?_, fun b k hb n hn' => ?_, fun b c k k' i j f g hne hb hc ho ho' hi hj => ?_⟩
  · rcases cases_ _ _ b k hnd hb with h1 | ⟨_, h1⟩
    · exact (hk _ h1).1
    · exact old b k h1
  · rcases cases_ _ _ b k hnd hb with h1 | ⟨_, h1⟩
    · exact dom n (hn _ h1 n hn')
    · exact dom n (.inl (h.ok b k h1 n hn'))
  · rcases cases_ _ _ b k hnd hb with h1 | ⟨_, h1⟩ <;> rcases cases_ _ _ c k' hnd hc with h2 | ⟨_, h2⟩
    · exact hap _ h1 _ h2 hne ho ho' i j f g hi hj
    · have h3 := (hk _ h1).2 ho i f hi
      have h4 := loc c k' j g h2 ho' hj
      omega
    · have h3 := (hk _ h2).2 ho' j g hj
      have h4 := loc b k i f h1 ho hi
      omega
    · rw [(hA b (by rw [h1]; rfl)).1] at hi
      rw [(hA c (by rw [h2]; rfl)).1] at hj
      exact h.apart b c k k' i j f g hne h1 h2 ho ho' hi hj
theorem upds_cases' {α : Type} : ∀ (l : List (Nat × α)) (f : Nat → Option α) {n : Nat} {v : α}, upds f l n = some v → (n, v) ∈ l ∨ (n ∉ l.map (·.1) ∧ f n = some v)
  | [], f, n, v, h => .inr ⟨by simp, h⟩
  | (k, u) :: r, f, n, v, h => by
    simp only [upds] at h
    rcases upds_cases' r _ h with h | ⟨h1, h2⟩
    · exact .inl (List.mem_cons_of_mem _ h)
    · by_cases hk : n = k
      · subst hk; rw [upd_same] at h2; cases h2; exact .inl List.mem_cons_self
      · rw [upd_ne _ _ hk] at h2; exact .inr ⟨by simp [hk]; simpa using h1, h2⟩
theorem Fr.more (hA : Agree E E' m) (hw : ∀ i, i < w.heap.size → w'.heap[i]? = w.heap[i]?) (news : List (Nat × Blk)) (hl : ∀ u ∈ news, u.2.own = true → ∀ i f, E'.at_ u.1 = some (i, f) → w.heap.size ≤ i) : Fr m E w (upds m news) E' w' := by
  refine ⟨fun i hi _ => hw i hi, fun b k i f h1 h2 h3 hi => ?_⟩
  rcases upds_cases' _ _ h1 with h | ⟨_, h⟩
  · have := hl _ h h2 i f h3; omega
  · exact ⟨b, k, f, h, h2, by rw [← (hA b (by rw [h]; rfl)).1]; exact h3⟩
theorem Fr.turn {b : Nat} {k k' : Blk} {i : Nat} (hb : m b = some k) (ho : k.own = true) (hi : E.at_ b = some (i, 0)) (hw : ∀ j, j ≠ i → w'.heap[j]? = w.heap[j]?) : Fr m E w (upds m [(b, k')]) E w' := by
  refine ⟨fun j hj hn => hw j fun e => hn b k 0 hb ho (by rw [e]; exact hi), fun c kc j f h1 h2 h3 hj => ?_⟩
  rcases upds_cases' _ _ h1 with h | ⟨_, h⟩
  · simp at h
    obtain ⟨rfl, rfl⟩ := h
    exact ⟨c, k, f, hb, ho, h3⟩
  · exact ⟨c, kc, f, h, h2, h3⟩
theorem Fr.grown (hA : Agree E E' m) {b nb : Nat} {k kn : Blk} (hb : m b = some k) (ho : k.own = true) (hw : ∀ i, i < w.heap.size → (∀ f, E.at_ b ≠ some (i, f)) → w'.heap[i]? = w.heap[i]?)
    (hat : ∀ i f, E'.at_ nb = some (i, f) → E.at_ b = some (i, f) ∨ w.heap.size ≤ i) : Fr m E w (upds m [(nb, kn), (b, .gone)]) E' w' := by
  refine ⟨fun j hj hn => hw j hj fun f e => hn b k f hb ho e, fun c kc j f h1 h2 h3 hj => ?_⟩
  rcases upds_cases' _ _ h1 with h | ⟨_, h⟩
  · simp at h
    rcases h with ⟨rfl, rfl⟩ | ⟨rfl, rfl⟩
    · rcases hat j f h3 with h | h
      · exact ⟨b, k, f, hb, ho, h⟩
      · omega
    · cases h2
  · exact ⟨c, kc, f, h, h2, by rw [← (hA c (by rw [h]; rfl)).1]; exact h3⟩
/-- A block turned. -/
theorem MemRel.turn (h : MemRel tid B E m w) {b : Nat} {k k' : Blk} {i : Nat} (hb : m b = some k) (ho : k.own = true) (ho' : k'.own = true) (hi : E.at_ b = some (i, 0)) (hw : ∀ j, j ≠ i → w'.heap[j]? = w.heap[j]?)
    (hk : BlkOk tid B E w' b k') (hn : ∀ n ∈ k'.names, (m n).isSome = true) : MemRel tid B E (upds m [(b, k')]) w' := by
  have hBi : B ≤ i := (own_at (h.blk b k hb) ho hi).1
  have other : ∀ c kc, c ≠ b → m c = some kc → BlkOk tid B E w' c kc := by
    intro c kc hne hc
    by_cases hg : kc = .gone
    · subst hg; trivial
    refine (h.blk c kc hc).keep ⟨rfl, rfl, rfl⟩ (fun _ _ => ⟨rfl, rfl, rfl⟩) (fun j f hj => hw j ?_)
    cases hoc : kc.own
    · cases kc with
      | cells _ _ => cases hoc
      | gone => exact absurd rfl hg
      | row own t l =>
        have hoc : own = false := hoc
        have := h.blk c _ hc
        unfold BlkOk RowOk at this
        rw [hj] at this
        have := this.2.2.2.1 hoc
        omega
    · exact h.apart c b kc k j i f 0 hne hc hb hoc ho hj hi
  have is : ∀ c kc, upds m [(b, k')] c = some kc → (c = b ∧ kc = k') ∨ (c ≠ b ∧ m c = some kc) := by
    intro c kc hc
    simp only [upds] at hc
    by_cases hcb : c = b
    · subst hcb; rw [upd_same] at hc; exact .inl ⟨rfl, (Option.some.inj hc).symm⟩
    · rw [upd_ne _ _ hcb] at hc; exact .inr ⟨hcb, hc⟩
  have dom : ∀ n, (m n).isSome = true → (upds m [(b, k')] n).isSome = true := fun n hn => by rw [upds_some, hn]; rfl
  refine ⟨fun c kc hc => ?_, fun c kc hc n hn' => ?_, fun c d kc kd j l f g hne hc hd hoc hod hj hl => ?_⟩
  · rcases is c kc hc with ⟨rfl, rfl⟩ | ⟨h1, h2⟩
    · exact hk
    · exact other c kc h1 h2
  · rcases is c kc hc with ⟨rfl, rfl⟩ | ⟨h1, h2⟩
    · exact dom n (hn n hn')
    · exact dom n (h.ok c kc h2 n hn')
  · rcases is c kc hc with ⟨rfl, rfl⟩ | ⟨h1, h2⟩ <;> rcases is d kd hd with ⟨rfl, rfl⟩ | ⟨h3, h4⟩
    · exact absurd rfl hne
    · exact h.apart c d k kd j l f g hne hb h4 ho hod hj hl
    · exact h.apart c d kc k j l f g hne h2 hb hoc ho hj hl
    · exact h.apart c d kc kd j l f g hne h2 h4 hoc hod hj hl
/-- A row made longer: its old name is gone. -/
theorem MemRel.grown (h : MemRel tid B E m w) (hB : B ≤ w.heap.size) (hA : Agree E E' m) {b nb : Nat} {k kn : Blk} (hb : m b = some k) (ho : k.own = true) (hnb : m nb = none)
    (hw : ∀ i, i < w.heap.size → (∀ f, E.at_ b ≠ some (i, f)) → w'.heap[i]? = w.heap[i]?) (hk : BlkOk tid B E' w' nb kn) (hn : kn.names = [])
    (hat : ∀ i f, E'.at_ nb = some (i, f) → E.at_ b = some (i, f) ∨ w.heap.size ≤ i) : MemRel tid B E' (upds m [(nb, kn), (b, .gone)]) w' := by
  have hbn : b ≠ nb := fun e => by rw [e, hnb] at hb; cases hb
  have is : ∀ c kc, upds m [(nb, kn), (b, .gone)] c = some kc → (c = b ∧ kc = .gone) ∨ (c = nb ∧ kc = kn) ∨ (c ≠ b ∧ m c = some kc) := by
    intro c kc hc
    simp only [upds] at hc
    by_cases hcb : c = b
    · subst hcb; rw [upd_same] at hc; exact .inl ⟨rfl, (Option.some.inj hc).symm⟩
    · rw [upd_ne _ _ hcb] at hc
      by_cases hcn : c = nb
      · subst hcn; rw [upd_same] at hc; exact .inr (.inl ⟨rfl, (Option.some.inj hc).symm⟩)
      · rw [upd_ne _ _ hcn] at hc; exact .inr (.inr ⟨hcb, hc⟩)
  have dom : ∀ n, (m n).isSome = true → (upds m [(nb, kn), (b, .gone)] n).isSome = true := fun n hn => by rw [upds_some, hn]; rfl
  have loc : ∀ c kc i f, m c = some kc → kc.own = true → E'.at_ c = some (i, f) → E.at_ c = some (i, f) ∧ i < w.heap.size := by
    intro c kc i f hc hoc hi
    rw [(hA c (by rw [hc]; rfl)).1] at hi
    obtain ⟨_, _, cu, t, hh⟩ := own_at (h.blk c kc hc) hoc hi
    exact ⟨hi, (Array.getElem?_eq_some_iff.1 hh).1⟩
  have other : ∀ c kc, c ≠ b → m c = some kc → BlkOk tid B E' w' c kc := by
    intro c kc hne hc
    by_cases hg : kc = .gone
    · subst hg; trivial
    refine (h.blk c kc hc).keep (hA c (by rw [hc]; rfl)) (agree_names hA (h.ok c kc hc)) (fun i f hi => ?_)
    cases hoc : kc.own
    · cases kc with
      | cells _ _ => cases hoc
      | gone => exact absurd rfl hg
      | row own t l =>
        have hoc : own = false := hoc
        have hh := h.blk c _ hc
        unfold BlkOk RowOk at hh
        rw [hi] at hh
        have hlt := hh.2.2.2.1 hoc
        refine hw i (Nat.lt_of_lt_of_le hlt hB) fun g hg => ?_
        have := (own_at (h.blk b k hb) ho hg).1
        omega
    · obtain ⟨_, _, cu, t, hh⟩ := own_at (h.blk c kc hc) hoc hi
      exact hw i (Array.getElem?_eq_some_iff.1 hh).1 fun g hg => h.apart c b kc k i i f g hne hc hb hoc ho hi hg rfl
  refine ⟨fun c kc hc => ?_, fun c kc hc n hn' => ?_, fun c d kc kd i j f g hne hc hd hoc hod hi hj => ?_⟩
  · rcases is c kc hc with ⟨rfl, rfl⟩ | ⟨rfl, rfl⟩ | ⟨h1, h2⟩
    · trivial
    · exact hk
    · exact other c kc h1 h2
  · rcases is c kc hc with ⟨rfl, rfl⟩ | ⟨rfl, rfl⟩ | ⟨h1, h2⟩
    · cases hn'
    · rw [hn] at hn'; cases hn'
    · exact dom n (h.ok c kc h2 n hn')
  · rcases is c kc hc with ⟨rfl, rfl⟩ | ⟨rfl, rfl⟩ | ⟨h1, h2⟩ <;> rcases is d kd hd with ⟨rfl, rfl⟩ | ⟨rfl, rfl⟩ | ⟨h3, h4⟩
    all_goals first | (cases hoc; done) | (cases hod; done) | (exact absurd rfl hne) | skip
    · obtain ⟨hj', hlt⟩ := loc d kd j g h4 hod hj
      rcases hat i f hi with hi' | hi'
      · exact h.apart b d k kd i j f g (Ne.symm h3) hb h4 ho hod hi' hj'
      · omega
    · obtain ⟨hi', hlt⟩ := loc c kc i f h2 hoc hi
      rcases hat j g hj with hj' | hj'
      · exact h.apart c b kc k i j f g h1 h2 hb hoc ho hi' hj'
      · omega
    · exact h.apart c d kc kd i j f g hne h2 h4 hoc hod (loc c kc i f h2 hoc hi).1 (loc d kd j g h4 hod hj).1
theorem patch_embs (cs vs : List PV) (p : Nat) : PV.embs E (patch cs p vs) = (PV.embs E cs).take p ++ PV.embs E vs ++ (PV.embs E cs).drop (p + vs.length) := by
  unfold patch; rw [embs_map, embs_map, embs_map]; simp [List.map_take, List.map_drop]
theorem namess_patch {cs vs : List PV} {p n : Nat} (h : n ∈ PV.namess (patch cs p vs)) : n ∈ PV.namess cs ∨ n ∈ PV.namess vs := by
  unfold patch at h
  rw [namess_mem] at h
  obtain ⟨v, hv, hn⟩ := h
  rw [List.mem_append, List.mem_append] at hv
  rcases hv with (hv | hv) | hv
  · exact .inl ((namess_mem _).2 ⟨v, List.mem_of_mem_take hv, hn⟩)
  · exact .inr ((namess_mem _).2 ⟨v, hv, hn⟩)
  · exact .inl ((namess_mem _).2 ⟨v, List.mem_of_mem_drop hv, hn⟩)
theorem seg_get (L V : List Value) (q n j : Nat) (hV : V.length = n) (hq : q + n ≤ L.length) : (L.take q ++ V ++ L.drop (q + n))[j]? = if j < q then L[j]? else if j < q + n then V[j - q]? else L[j]? := by
  have hlt : (L.take q).length = q := by simp; omega
  split
  · rw [List.append_assoc, List.getElem?_append_left (by omega), List.getElem?_take, if_pos ‹_›]
  · split
    · rw [List.append_assoc, List.getElem?_append_right (by omega), hlt, List.getElem?_append_left (by omega)]
    · rw [List.getElem?_append_right (by simp; omega), List.getElem?_drop]
      congr 1
      simp; omega
theorem storeVar_run {t : TypeId} {b : Bool} {n : Nat} {u : PV} {vs : List PV} {i q : Nat} {cur : Array Value} {ty : TypeId} (ht : tyOf P t = some (b, n)) (hf : flat u = some vs) (hl : vs.length = n) (hw : w.heap[i]? = some (.cells cur ty (0, 0))) (hq : q + n ≤ cur.size) :
    (storeVar t ⟨i, q, none⟩ (u.emb E)).run P w = .ok () (w.setRow i (cur.toList.take q ++ PV.embs E vs ++ cur.toList.drop (q + n)).toArray) := by
  obtain ⟨f1, f2⟩ := flat_emb (E := E) hf
  obtain ⟨_, t2, _⟩ := tyOf_run (w := w) ht
  have hs : (u.emb E).cells.size = n := by rw [f1]; simp [embs_length, hl]
  have := run_storeCells_at (P := P) i q ty (PV.embs E vs) 0 cur w hw (by rw [embs_length, hl]; omega) f2
  simp only [storeVar, Sem.run_bind, t2, Result.andThen_ok, hs, ne_eq, not_true, if_false, Sem.run_pure]
  rw [f1]
  simpa [embs_length, hl] using this
theorem storeAt_run {t : TypeId} {b sz i off k : Nat} {u : PV} {r : Result Unit} (hk : E.at_ b = some (k, 0)) (h : (storeVar t ⟨k, i * sz + off, none⟩ (u.emb E)).run P w = r) :
    (Instr.storeAt t (PV.emb E (.ptr b sz i off)) (u.emb E)).run P w = r := by
  simp only [Instr.storeAt, PV.emb, hk, Option.getD_some, Instr.sureAddr, Sem.run_bind, Sem.run_pure, Result.andThen_ok, Nat.zero_add]
  exact h
theorem store_run {t : TypeId} {v u : PV} {R : List Nat} {out : Out} (hM : MemRel tid B E m w) (hu : ∀ n ∈ u.names, (m n).isSome = true) (h : (coreStore P t v u (restr m R)).run = some out) :
    ∃ w', (Instr.storeAt t (v.emb E) (u.emb E)).run P w = .ok () w' ∧ MemRel tid B E (upds m out.ups) w' ∧ Below B w w' ∧ Fr m E w (upds m out.ups) E w' ∧ out.news = [] ∧ out.put = .raw undef := by
  unfold coreStore at h
  split at h
  · rename_i b sz i off vs _ n hf ht
    cases hl : Nat.beq vs.length n <;> rw [hl] at h
    · cases h
    · have hl : vs.length = n := Nat.beq_eq ▸ hl
      simp only [cond_true] at h
      split at h
      · rename_i cs ty hb
        have h : i * sz + off + n ≤ cs.length ∧ out = { put := .raw undef, ups := [(b, .cells (patch cs (i * sz + off) vs) ty)] } := by
          cases hs : Nat.beq sz 0 <;> rw [hs] at h
          · obtain ⟨hq, h⟩ := run_chk h
            rw [Nat.ble_eq] at hq
            rw [Tr.run_bind, Option.bind_eq_some_iff] at h
            obtain ⟨r, h1, h2⟩ := h
            cases h2
            exact ⟨hq, by rw [arrSet_run hl hq h1]⟩
          · simp only [cond_true] at h
            cases hq : Nat.ble (i * sz + off + n) cs.length <;> rw [hq] at h
            · cases h
            · rw [Nat.ble_eq] at hq
              simp only [cond_true, run_ret, Option.some.injEq] at h
              exact ⟨hq, h.symm⟩
        obtain ⟨hq, h⟩ := h
        · subst h
          have hb := restr_sub hb
          obtain ⟨k, hk, hBk, hw⟩ := hM.blk b _ hb
          have hr := storeVar_run (E := E) ht hf hl hw (q := i * sz + off) (by simp [embs_length]; omega)
          refine ⟨_, storeAt_run hk hr, ?_, below_setRow (.refl _ _) hBk _, Fr.turn hb rfl hk (fun j hj => setRow_other _ _ _ _ hj), rfl, rfl⟩
          · refine hM.turn hb rfl rfl hk (fun j hj => setRow_other _ _ _ _ hj) ⟨k, hk, hBk, ?_⟩ (fun x hx => ?_)
            · rw [setRow_heap _ _ _ _ _ _ hw]
              rw [patch_embs, hl]
            · rcases namess_patch hx with hx | hx
              · exact hM.ok b _ hb x hx
              · exact hu x (by rw [flat_names hf] at hx; exact hx)
      · rename_i et l hb
        cases hq : (Nat.beq sz et.size && Nat.ble (off + n) et.size) <;> rw [hq] at h
        · cases h
        · rw [Bool.and_eq_true, Nat.ble_eq] at hq
          have hsz : sz = et.size := Nat.beq_eq ▸ hq.1
          simp only [cond_true] at h
          obtain ⟨hi, h⟩ := run_chk h
          rw [Nat.blt_eq] at hi
          split at h
          · rename_i x hx
            simp only [run_ret, Option.some.injEq] at h
            subst h
            have hb := restr_sub hb
            have hrow := hM.blk b _ hb
            obtain ⟨k, f, hk, h1, h2, hc⟩ := row_cell hrow hi
            unfold BlkOk RowOk at hrow
            rw [hk] at hrow
            obtain ⟨_, _, h3, _, h5⟩ := hrow
            obtain ⟨h6, rfl, h6c, arr, h7, h8⟩ := h5 rfl
            have hd := dec_cells _ _ _ hx
            have hmul : (i + 1) * et.size ≤ l.length * et.size := Nat.mul_le_mul_right _ hi
            have hmul2 : l.length * et.size ≤ arr.size := by rw [h8]; exact Nat.mul_le_mul_right _ h2
            rw [Nat.add_mul, Nat.one_mul] at hmul
            have hr := storeVar_run (E := E) ht hf hl h7 (q := i * sz + off) (by rw [hsz]; omega)
            refine ⟨_, storeAt_run hk hr, ?_, below_setRow (.refl _ _) h6 _, Fr.turn hb rfl hk (fun j hj => setRow_other _ _ _ _ hj), rfl, rfl⟩
            · refine hM.turn hb rfl rfl hk (fun j hj => setRow_other _ _ _ _ hj) ?_ (fun x hx => by simp [Blk.names] at hx)
              show RowOk tid B E _ b true et (l.set i x)
              unfold RowOk
              rw [hk]
              refine ⟨by simpa using h1, by simpa using h2, fun j hj => ?_, (fun hh => by cases hh), fun _ => ⟨h6, rfl, h6c, _, setRow_heap _ _ _ _ _ _ h7, ?_⟩⟩
              · have hce : et.cells x = (et.cells (l.getD i et.dflt)).take off ++ PV.embs E vs ++ (et.cells (l.getD i et.dflt)).drop (off + n) := by
                  have := congrArg (PV.embs E) hd
                  rw [raws_emb, patch_embs, raws_emb, hl] at this
                  exact this.symm
                have hVn : (PV.embs E vs).length = n := by rw [embs_length, hl]
                rw [Nat.zero_add, cell_setRow_same _ _ _ _ _ _ _ h7]
                have hpos := et.size_pos
                obtain ⟨p, r, rfl, hr', hp⟩ : ∃ p r, j = p * et.size + r ∧ r < et.size ∧ p < l.length := by
                  refine ⟨j / et.size, j % et.size, by rw [Nat.mul_comm]; exact (Nat.div_add_mod _ _).symm, Nat.mod_lt _ hpos, ?_⟩
                  rw [Nat.div_lt_iff_lt_mul hpos]
                  simpa using hj
                rw [flat_get et (l.set i x) p r (by simpa using hp) hr']
                rw [List.getElem?_toArray, seg_get _ _ _ _ _ hVn (by rw [hsz, Array.length_toList]; omega)]
                have harr : arr.toList[p * et.size + r]? = (et.cells (l.getD p et.dflt))[r]? := by
                  have hlt : p * et.size + r < l.length * et.size := by
                    have : (p + 1) * et.size ≤ l.length * et.size := Nat.mul_le_mul_right _ hp
                    rw [Nat.add_mul] at this; omega
                  rw [← flat_get et l p r hp hr', ← h3 _ hlt, Nat.zero_add]
                  simp [World.cell?, h7]
                by_cases hpi : p = i
                · subst hpi
                  have e2 : (l.set p x).getD p et.dflt = x := by simp [List.getD, hp]
                  rw [e2, hce, seg_get _ _ _ _ _ hVn (by rw [ET.cells_length]; omega), harr, hsz]
                  by_cases c1 : r < off
                  · rw [if_pos (by omega), if_pos c1]
                  · rw [if_neg (by omega), if_neg c1]
                    by_cases c2 : r < off + n
                    · rw [if_pos (by omega), if_pos c2]; congr 1; omega
                    · rw [if_neg (by omega), if_neg c2]
                · have e2 : (l.set i x).getD p et.dflt = l.getD p et.dflt := by simp [List.getD, Ne.symm hpi]
                  rw [e2, harr, hsz]
                  rcases Nat.lt_or_gt_of_ne hpi with hlt | hgt
                  · have : (p + 1) * et.size ≤ i * et.size := Nat.mul_le_mul_right _ hlt
                    rw [Nat.add_mul] at this
                    rw [if_pos (by omega)]
                  · have : (i + 1) * et.size ≤ p * et.size := Nat.mul_le_mul_right _ hgt
                    rw [Nat.add_mul] at this
                    rw [if_neg (by omega), if_neg (by omega)]
              · have : i * sz = i * et.size := by rw [hsz]
                simp [embs_length]; omega
          · cases h
      · cases h
  · cases h
end
end Go.Proofs.YtpbklojdmkpkcaaDoor
/- The evaluator: rows that are made, rows that grow. -/
namespace Go.Proofs.YtpbklojdmkpkcaaDoor
open Go Go.RowKit
set_option linter.unusedVariables false
set_option linter.unusedSimpArgs false

def Env.place (E : Env) (b : Nat) (v : Value) : Env :=
  { at_ := fun n => if n = b then (match v with
      | .slice (some a) _ _ => some (a.block, a.off)
      | _ => none) else E.at_ n
    len := fun n => if n = b then (match v with
      | .slice _ n _ => n
      | _ => 0) else E.len n
    cap := fun n => if n = b then (match v with
      | .slice _ _ c => c
      | _ => 0) else E.cap n }
theorem ET.flat_length (t : ET) : ∀ l : List t.α, (l.flatMap t.cells).length = l.length * t.size
  | [] => by simp
  | x :: r => by rw [List.flatMap_cons, List.length_append, t.cells_length, ET.flat_length t r, List.length_cons, Nat.add_mul]; omega
theorem ET.cells_one (t : ET) (x : t.α) : ∀ u ∈ t.cells x, u.oneCell' = true := by
  intro u hu
  cases t <;> simp [ET.cells, Fx.cells, Vc.cells] at hu <;> (try (rcases hu with hu | hu)) <;> (try subst hu) <;> (try rfl)
  all_goals (repeat (first | (subst hu; rfl) | rcases hu with hu | hu))
theorem ET.flat_one (t : ET) (l : List t.α) : ∀ u ∈ l.flatMap t.cells, u.oneCell' = true := by
  intro u hu
  obtain ⟨x, _, hx⟩ := List.mem_flatMap.1 hu
  exact t.cells_one x u hx
theorem raws_inj {l k : List Value} (h : raws l = raws k) : l = k := by
  have := congrArg (PV.embs ⟨fun _ => none, fun _ => 0, fun _ => 0⟩) h
  rwa [raws_emb, raws_emb] at this
section
variable {P : Program} {tid : ET → TypeId} {B : Nat} {E E' : Env} {m : Nat → Option Blk} {w w' : World}
theorem place_agree {b : Nat} (v : Value) (h : m b = none) : Agree E (E.place b v) m := by
  intro n hn
  have : n ≠ b := fun e => by subst e; rw [h] at hn; cases hn
  simp [Env.place, this]
theorem owns_place {base b sz : Nat} {et : ET} {l : List et.α} {v : Value} (h : w'.ownsRow base (tid et) et.size v l.length (l.flatMap et.cells)) (hB : B ≤ base) :
    RowOk tid B (E.place b v) w' b true et l ∧ (PV.sl b sz).emb (E.place b v) = v ∧ ∀ i f, (E.place b v).at_ b = some (i, f) → base ≤ i ∧ v.ownBlock = some i ∧ f = 0 := by
  rcases h.2 with ⟨rfl, hn⟩ | ⟨g, cap, cur, rfl, hb, hg, hnc, hcm, hcs, htake⟩
  · refine ⟨?_, by simp [PV.emb, Env.place], fun i f hi => by simp [Env.place] at hi⟩
    unfold RowOk
    simp only [Env.place, if_true]
    exact List.eq_nil_of_length_eq_zero hn
  · refine ⟨?_, by simp [PV.emb, Env.place], fun i f hi => by simp [Env.place] at hi; obtain ⟨rfl, rfl⟩ := hi; exact ⟨hb, rfl, rfl⟩⟩
    unfold RowOk
    simp only [Env.place, if_true]
    refine ⟨trivial, hnc, fun j hj => ?_, (fun h => by cases h), fun _ => ⟨Nat.le_trans hB hb, trivial, hcm, cur, hg, hcs⟩⟩
    rw [Nat.zero_add, cell_of_row _ g j cur (tid et) (0, 0) hg, ← htake, List.getElem?_take, if_pos hj]
    simp
theorem rowOk_owns {b sz : Nat} {et : ET} {l : List et.α} (h : RowOk tid B E w b true et l) : w.ownsRow B (tid et) et.size ((PV.sl b sz).emb E) l.length (l.flatMap et.cells) := by
  refine ⟨et.flat_length l, ?_⟩
  unfold RowOk at h
  split at h
  · rename_i hk
    subst h
    left
    simp [PV.emb, hk]
  · rename_i k f hk
    obtain ⟨h1, h2, h3, _, h5⟩ := h
    obtain ⟨h6, rfl, h7, arr, h8, h9⟩ := h5 rfl
    right
    refine ⟨k, E.cap b, arr, by simp [PV.emb, hk, h1], h6, h8, h2, h7, h9, ?_⟩
    apply List.ext_getElem?
    intro j
    by_cases hj : j < l.length * et.size
    · have := h3 j hj
      rw [Nat.zero_add, cell_of_row _ k j arr (tid et) (0, 0) h8] at this
      rw [List.getElem?_take, if_pos hj, ← this]
      simp
    · rw [List.getElem?_take, if_neg hj, List.getElem?_eq_none (by rw [et.flat_length]; omega)]
/-- A new row. -/
theorem MemRel.made (h : MemRel tid B E m w) (hB : B ≤ w.heap.size) {b sz : Nat} {et : ET} {l : List et.α} {v : Value} (hb : m b = none) (hw : w.grownBy w' none) (hown : w'.ownsRow w.heap.size (tid et) et.size v l.length (l.flatMap et.cells)) :
    Agree E (E.place b v) m ∧ MemRel tid B (E.place b v) (upds m [(b, .row true et l)]) w' ∧ Below B w w' ∧ (PV.sl b sz).emb (E.place b v) = v ∧ Fr m E w (upds m [(b, .row true et l)]) (E.place b v) w' := by
  obtain ⟨h1, h2, h3⟩ := owns_place (E := E) (b := b) (sz := sz) hown hB
  refine ⟨place_agree v hb, ?_, ⟨hw.os, hw.tape, hw.output, hw.size, fun i hi => hw.block i (Nat.lt_of_lt_of_le hi hB) (by simp)⟩, h2, Fr.more (place_agree v hb) (fun i hi => hw.block i hi (by simp)) [(b, .row true et l)] fun u hu _ i f hi => by simp at hu; subst hu; exact (h3 i f hi).1⟩
  refine h.more hB (place_agree v hb) (fun i hi => hw.block i hi (by simp)) [(b, .row true et l)] (fun c hc => by simp at hc; subst hc; exact hb) (fun u hu n hn => by simp at hu; subst hu; cases hn) (by simp) (fun u hu => ?_) (fun u hu v hv hne => ?_)
  · simp at hu
    subst hu
    exact ⟨h1, fun _ i f hi => (h3 i f hi).1⟩
  · simp at hu hv
    subst hu; subst hv
    exact absurd rfl hne
theorem lay_cells (off : Nat) : ∀ (us : List Value) (k : Nat) (A : List Value), off + k + us.length ≤ A.length →
    (us.zipIdx k).foldl (fun cs (c, j) => cs.setIfInBounds (off + j) c) A.toArray = (A.take (off + k) ++ us ++ A.drop (off + k + us.length)).toArray := by
  intro us
  induction us with
  | nil => intro k A hA; simp
  | cons u us ih =>
    intro k A hA
    simp only [List.length_cons] at hA
    simp only [List.zipIdx_cons, List.foldl_cons, List.setIfInBounds_toArray]
    rw [ih (k + 1) (A.set (off + k) u) (by simp; omega)]
    congr 1
    have e1 : (A.set (off + k) u).take (off + (k + 1)) = A.take (off + k) ++ [u] := by
      rw [show off + (k + 1) = off + k + 1 from by omega, List.take_succ_eq_append_getElem (by simp; omega), List.take_set_of_le (by omega)]
      simp
    have e2 : (A.set (off + k) u).drop (off + (k + 1) + us.length) = A.drop (off + k + (u :: us).length) := by
      rw [List.drop_set_of_lt (by omega)]; congr 1; simp; omega
    rw [e1, e2]; simp
theorem fill_seq (size : Nat) : ∀ (vs : List Value) (cs : List (List Value)) (k : Nat) (A : List Value), vs.map (·.cells) = cs.map List.toArray → (∀ c ∈ cs, c.length = size) → A.length = (k + vs.length) * size →
    Instr.fill (fun i => some (i * size, size)) A.toArray ((List.range' k vs.length).zip vs) = some (A.take (k * size) ++ cs.flatten).toArray
  | [], cs, k, A, hc, hs, hA => by
    have : cs = [] := by simpa using hc.symm
    subst this
    simp only [List.length_nil, List.range'_zero, List.zip_nil_left, Instr.fill, List.flatten_nil, List.append_nil]
    rw [List.take_of_length_le (by simp at hA; omega)]
  | v :: vs, [], k, A, hc, hs, hA => by simp at hc
  | v :: vs, c :: cs, k, A, hc, hs, hA => by
    simp only [List.map_cons, List.cons.injEq] at hc
    have hcl : c.length = size := hs c (by simp)
    have hA' : A.length = (k + 1 + vs.length) * size := by rw [hA]; congr 1; simp; omega
    have hle : k * size + size ≤ A.length := by rw [hA', Nat.add_mul, Nat.add_mul]; omega
    simp only [List.length_cons, List.range'_succ, List.zip_cons_cons, Instr.fill]
    have hv : v.cells.size = size := by rw [hc.1]; simpa using hcl
    rw [if_neg (by simp [hv]; omega)]
    have e0 : v.cells.zipIdx.foldl (fun cs (c, j) => cs.setIfInBounds (k * size + j) c) A.toArray = (A.take (k * size) ++ c ++ A.drop (k * size + size)).toArray := by
      rw [hc.1, ← Array.foldl_toList, Array.toList_zipIdx]
      have := lay_cells (k * size) c 0 A (by omega)
      simp only [Nat.add_zero] at this
      rw [hcl] at this
      exact this
    rw [e0, fill_seq size vs cs (k + 1) _ hc.2 (fun c hc => hs c (by simp [hc])) (by simp; omega)]
    congr 2
    rw [List.flatten_cons, ← List.append_assoc]
    congr 1
    rw [Nat.add_mul, Nat.one_mul, List.take_append_of_le_length (by simp; omega)]
    exact List.take_of_length_le (by simp; omega)
theorem elems_ok {et : ET} : ∀ {vals : List PV} {l : List et.α}, elems et vals = some l → (vals.map (PV.emb E)).map (·.cells) = (l.map et.cells).map List.toArray
  | [], l, h => by simp only [elems, Option.some.injEq] at h; subst h; rfl
  | v :: r, l, h => by
    simp only [elems] at h
    split at h
    · rename_i cs hcs
      split at h
      · rename_i x l' hx hl
        simp only [Option.some.injEq] at h
        subst h
        have ih := elems_ok hl
        simp only [List.map_cons, List.cons.injEq]
        refine ⟨?_, ih⟩
        rw [(flat_emb (E := E) hcs).1, dec_cells _ _ _ hx, raws_emb]
      · cases h
    · cases h
theorem sliceOf_ok {O : Orc} {t : TypeId} {et : ET} {i : TypeInfo} (hO : ∀ t e, O.et t = some e → tid e = t) (h : sliceOf P O t = some (et, i)) : P.underlying t = some (.slice (tid et)) ∧ P.info? (tid et) = some i ∧ i.size = et.size := by
  unfold sliceOf at h
  split at h
  · rename_i e hu
    split at h
    · rename_i et' i' he hi
      cases hb : Nat.beq i'.size et'.size <;> rw [hb] at h
      · cases h
      · simp only [cond_true, Option.some.injEq, Prod.mk.injEq] at h
        obtain ⟨rfl, rfl⟩ := h
        have := hO _ _ he
        subst this
        exact ⟨hu, hi, Nat.beq_eq ▸ hb⟩
    · cases h
  · cases h
theorem zeroEl_ok {i : TypeInfo} {et : ET} {x : et.α} (h : zeroEl i et = some x) : ∃ z, i.zero = some z ∧ z.cells.toList = et.cells x := by
  unfold zeroEl at h
  split at h
  · rename_i z hz
    exact ⟨z, hz, raws_inj (dec_cells _ _ _ h)⟩
  · cases h
theorem lit_run {O : Orc} {nb len : Nat} {dst : Option Tmp} {t : TypeId} {idx : List Nat} {vals : List PV} {out : Out} (hO : ∀ t e, O.et t = some e → tid e = t) (h : (coreLit P O nb dst t len idx vals).run = some out) :
    ∃ (b : Nat) (et : ET) (l : List et.α) (v : Value) (w' : World), out = { put := .sl b et.size, news := [(b, .row true et l)] } ∧ (Instr.buildSlice t len ((idx.zip (vals.map (PV.emb E))).toArray)).run P w = .ok v w' ∧ w.grownBy w' none ∧ w'.ownsRow w.heap.size (tid et) et.size v l.length (l.flatMap et.cells) := by
  unfold coreLit at h
  split at h
  · rename_i d et i hso
    obtain ⟨s1, s2, s3⟩ := sliceOf_ok hO hso
    split at h
    · rename_i l hl
      cases hb : ((zeroEl i et).isSome && Nat.beq len vals.length && idx == List.range len && Nat.ble (len * et.size) 16777216) <;> rw [hb] at h
      · cases h
      · simp only [cond_true, run_ret, Option.some.injEq] at h
        simp only [Bool.and_eq_true, Nat.ble_eq, beq_iff_eq, Option.isSome_iff_exists] at hb
        obtain ⟨⟨⟨⟨x, hx⟩, hb1⟩, hb2⟩, hb3⟩ := hb
        have hb1 : len = vals.length := Nat.beq_eq ▸ hb1
        obtain ⟨z, hz, _⟩ := zeroEl_ok hx
        have hel := elems_ok (E := E) hl
        have hlen : l.length = len := by
          have := congrArg List.length hel
          simp at this; omega
        have hfill := fill_seq et.size (vals.map (PV.emb E)) (l.map et.cells) 0 ((Array.range (len * et.size)).map (z.cells[· % z.cells.size]!)).toList hel (fun c hc => by
          obtain ⟨y, _, rfl⟩ := List.mem_map.1 hc; exact et.cells_length y) (by simp [hb1])
        rw [Array.toArray_toList] at hfill
        rw [List.length_map, ← hb1, ← List.range_eq_range', ← hb2] at hfill
        simp only [Nat.zero_mul, List.take_zero, List.nil_append] at hfill
        have hflat : (l.map et.cells).flatten = l.flatMap et.cells := by rw [List.flatMap_def]
        rw [hflat] at hfill
        refine ⟨nb + d, et, l, .slice (some ⟨w.heap.size, 0, none⟩) l.length l.length, w.alloc (.cells (l.flatMap et.cells).toArray (tid et)), h.symm, ?_, World.grownBy_alloc w _ none, ?_⟩
        · by_cases h0 : len * et.size = 0
          · have hl0 : l = [] := by
              rcases Nat.mul_eq_zero.1 h0 with h0 | h0
              · exact List.eq_nil_of_length_eq_zero (by omega)
              · have := et.size_pos; omega
            subst hl0
            have hv0 : vals = [] := List.eq_nil_of_length_eq_zero (by simpa [hb1] using hlen.symm)
            subst hv0
            have hlen0 : len = 0 := by simpa using hb1
            subst hlen0
            simp [Instr.buildSlice, run_underlying s1, sizeOf, typeInfo, s2, s3, hb2, Instr.fill, newRow, Array.range_zero']
          · simp only [Instr.buildSlice, Sem.run_bind, run_underlying s1, Result.andThen_ok, sizeOf, typeInfo, run_program, s2, s3, Sem.run_pure, if_neg (show ¬ len * et.size > 2 ^ 24 by omega), if_neg h0, zeroValue, hz, hfill, newRow, hlen]
            simp [s2, s3, hz, hfill, newRow]
        · have := World.ownsRow_lit (base := w.heap.size) (e := tid et) (size := et.size) w (l.flatMap et.cells).toArray l.length (Nat.le_refl _) (by rw [hlen]; have := et.size_pos; have : len * 1 ≤ len * et.size := Nat.mul_le_mul_left _ this; simp only [maxLen]; omega) (by simpa using et.flat_length l)
          simpa using this
    · cases h
  · cases h
theorem split_idx {size j n : Nat} (hs : 0 < size) (hj : j < n * size) : ∃ p r, j = p * size + r ∧ r < size ∧ p < n ∧ j % size = r :=
  ⟨j / size, j % size, by rw [Nat.mul_comm]; exact (Nat.div_add_mod _ _).symm, Nat.mod_lt _ hs, by rw [Nat.div_lt_iff_lt_mul hs]; exact hj, rfl⟩
theorem made_flat {et : ET} {x : et.α} {z : Value} (hz : z.cells.toList = et.cells x) (n c : Nat) (hnc : n ≤ c) : (madeCells z.cells (c * et.size)).toList.take (n * et.size) = (List.replicate n x).flatMap et.cells := by
  have hzs : z.cells.size = et.size := by have := congrArg List.length hz; rw [et.cells_length] at this; simpa using this
  apply List.ext_getElem?
  intro j
  by_cases hj : j < n * et.size
  · obtain ⟨p, r, rfl, hr, hp, hm⟩ := split_idx et.size_pos hj
    have hjc : p * et.size + r < c * et.size := Nat.lt_of_lt_of_le hj (Nat.mul_le_mul_right _ hnc)
    rw [List.getElem?_take, if_pos hj, flat_get et (List.replicate n x) p r (by simpa using hp) hr]
    have e1 : (List.replicate n x).getD p et.dflt = x := by simp [hp]
    rw [e1, ← hz]
    simp only [madeCells, Array.toList_map, List.getElem?_map, Array.toList_range]
    rw [List.getElem?_range hjc]
    simp only [Option.map_some, hzs, hm]
    rw [Array.getElem!_eq_getD, Array.getD_eq_getD_getElem?, Array.getElem?_eq_getElem (by rw [hzs]; exact hr)]
    simp [hr, hzs]
  · rw [List.getElem?_take, if_neg hj, List.getElem?_eq_none (by rw [et.flat_length]; simpa using hj)]
theorem make_run {O : Orc} {nb : Nat} {dst : Option Tmp} {t : TypeId} {v u : PV} {out : Out} (hO : ∀ t e, O.et t = some e → tid e = t) (h : (coreMake P O nb dst t v u).run = some out) :
    ∃ (b : Nat) (et : ET) (l : List et.α) (r : Value) (w' : World), out = { put := .sl b et.size, news := [(b, .row true et l)] } ∧ (Instr.makeSlice t (v.emb E) (u.emb E)).run P w = .ok r w' ∧ w.grownBy w' none ∧ w'.ownsRow w.heap.size (tid et) et.size r l.length (l.flatMap et.cells) := by
  unfold coreMake at h
  split at h
  · rename_i d et i k1 n k2 c hso
    obtain ⟨s1, s2, s3⟩ := sliceOf_ok hO hso
    split at h
    · rename_i x hx
      obtain ⟨hck, h⟩ := run_chk h
      simp only [Bool.and_eq_true, decide_eq_true_iff] at hck
      obtain ⟨⟨⟨h0, hnc⟩, hby⟩, h63⟩ := hck
      simp only [run_ret, Option.some.injEq] at h
      obtain ⟨z, hz, hzc⟩ := zeroEl_ok hx
      have hr := run_make (P := P) w t (tid et) i z s1 s2 hz k1 k2 n c h0 hnc hby (by omega)
      refine ⟨nb + d, et, List.replicate n.toNat x, _, _, h.symm, hr, World.grownBy_alloc w _ none, ?_⟩
      refine ⟨?_, .inr ⟨w.heap.size, c.toNat, madeCells z.cells (c.toNat * i.size), by simp, Nat.le_refl _, heap_alloc_new w _, by simp; omega, by simp only [maxLen]; omega, by rw [size_madeCells, s3], ?_⟩⟩
      · exact et.flat_length _
      · rw [s3]
        have := made_flat hzc n.toNat c.toNat (by omega)
        simpa using this
    · cases h
  · cases h
theorem baseOf_ok {R : List Nat} {et : ET} {v : PV} {ups : List (Nat × Blk)} {l : List et.α} (h : baseOf (restr m R) et v = some (ups, l)) : (v = .raw (.slice none 0 0) ∧ ups = [] ∧ l = []) ∨ ∃ b sz, v = .sl b sz ∧ m b = some (.row true et l) ∧ ups = [(b, .gone)] := by
  unfold baseOf at h
  split at h
  · cases h; exact .inl ⟨rfl, rfl, rfl⟩
  · rename_i b sz
    split at h
    · rename_i t l' hb
      split at h
      · rename_i ht
        subst ht
        simp only [Option.some.injEq, Prod.mk.injEq] at h
        obtain ⟨rfl, rfl⟩ := h
        exact .inr ⟨b, sz, rfl, restr_sub hb, rfl⟩
      · cases h
    · cases h
  · cases h
theorem moreOf_ok {R : List Nat} {et : ET} {v : PV} {l : List et.α} (h : moreOf (restr m R) et v = some l) : ∃ b sz own, v = .sl b sz ∧ m b = some (.row own et l) := by
  unfold moreOf at h
  split at h
  · rename_i b sz
    split at h
    · rename_i own t l' hb
      split at h
      · rename_i ht
        subst ht
        simp only [Option.some.injEq] at h
        subst h
        exact ⟨b, sz, own, rfl, restr_sub hb⟩
      · cases h
    · cases h
  · cases h
theorem append_run {O : Orc} {nb : Nat} {dst : Option Tmp} {ts : Array TypeId} {ty : TypeId} {R : List Nat} {v u : PV} {out : Out} (hO : ∀ t e, O.et t = some e → tid e = t) (hM : MemRel tid B E m w) (hB : B ≤ w.heap.size) (hf : ∀ b ∈ out.news.map (·.1), m b = none)
    (h : (coreAppend P O nb dst ts.toList v u (restr m R)).run = some out) :
    ∃ (r : Value) (E' : Env) (w' : World), (Builtin.append_ ts ty #[v.emb E, u.emb E]).run P w = .ok r w' ∧ r = out.put.emb E' ∧ Agree E E' m ∧ MemRel tid B E' (upds m (out.news ++ out.ups)) w' ∧ Below B w w' ∧ Fr m E w (upds m (out.news ++ out.ups)) E' w' := by
  unfold coreAppend at h
  split at h
  · rename_i d t t' hts
    cases hb : Nat.beq t t' <;> rw [hb] at h
    · cases h
    · have htt : t = t' := Nat.beq_eq ▸ hb
      subst htt
      simp only [cond_true] at h
      split at h
      · rename_i et i hso
        obtain ⟨s1, s2, s3⟩ := sliceOf_ok hO hso
        split at h
        · rename_i ups l k x hbase hmore hx
          cases hbb : Nat.blt 0 i.bytes <;> rw [hbb] at h
          · cases h
          · simp only [cond_true] at h
            have hb0 : 0 < i.bytes := by rw [Nat.blt_eq] at hbb; exact hbb
            obtain ⟨hlen, h⟩ := run_chk h
            rw [Nat.ble_eq] at hlen
            simp only [run_ret, Option.some.injEq] at h
            subst h
            have hts' : ts = #[t, t] := Array.toList_inj.1 (by simpa using hts)
            subst hts'
            obtain ⟨z, hz, hzc⟩ := zeroEl_ok hx
            have hzs : z.cells.size = et.size := by have := congrArg List.length hzc; rw [et.cells_length] at this; simpa using this
            have hnb : m (nb + d) = none := hf (nb + d) (by simp)
            have h63 : l.length + k.length ≤ maxLen := by
              have : (l.length + k.length) * 1 ≤ (l.length + k.length) * i.bytes := Nat.mul_le_mul_left _ hb0
              simp only [maxLen]; omega
            obtain ⟨c, szc, own, rfl, hmc⟩ := moreOf_ok hmore
            have hrow : RowOk tid B E w c own et k := hM.blk c _ hmc
            -- what the second one holds
            have second : (∃ g f n cp, (PV.sl c szc).emb E = .slice (some ⟨g, f, none⟩) n cp ∧ n = k.length ∧ ∀ j u, (k.flatMap et.cells)[j]? = some u → w.cell? ((⟨g, f, none⟩ : Addr).add j) = some u) ∨ ((PV.sl c szc).emb E = .slice none 0 0 ∧ k = []) := by
              unfold RowOk at hrow
              split at hrow
              · rename_i hk
                exact .inr ⟨by simp [PV.emb, hk], hrow⟩
              · rename_i g f hk
                obtain ⟨r1, r2, r3, _⟩ := hrow
                refine .inl ⟨g, f, E.len c, E.cap c, by simp [PV.emb, hk], r1.symm, fun j u hu => ?_⟩
                rw [addr_add]
                have := (List.getElem?_eq_some_iff.1 hu).1
                rw [et.flat_length] at this
                rw [r3 j this]; exact hu
            rcases baseOf_ok hbase with ⟨rfl, rfl, rfl⟩ | ⟨b, szb, rfl, hmb, rfl⟩
            · -- to nothing
              rcases second with ⟨g, f, n, cp, e1, rfl, hcs⟩ | ⟨e1, rfl⟩
              · obtain ⟨v', w', hr, hown, hg, _, hat⟩ := run_append_own_at (P := P) w w.heap.size t ty (tid et) i z et.size i.bytes s1 s2 hz s3 rfl hzs et.size_pos (.slice none 0 0) 0 [] (World.ownsRow_nil _ _ _ _) ⟨g, f, none⟩ k.length cp (k.flatMap et.cells) (et.flat_length k) hcs (et.flat_one k) (by simpa using h63) (by simpa using hlen) (Nat.le_refl _)
                obtain ⟨a1, a2, a3, a4, a5⟩ := hM.made (sz := et.size) (v := v') (l := k) hB hnb hg (by simpa using hown)
                refine ⟨v', E.place (nb + d) v', w', ?_, a4.symm, a1, by simpa using a2, a3, by simpa using a5⟩
                rw [e1]; exact hr
              · obtain ⟨a1, a2, a3, a4, a5⟩ := hM.made (sz := et.size) (v := .slice none 0 0) (et := et) (l := []) (w' := w) hB hnb ⟨rfl, rfl, rfl, Nat.le_refl _, fun _ _ _ => rfl⟩ (World.ownsRow_nil _ _ _ _)
                refine ⟨.slice none 0 0, E.place (nb + d) (.slice none 0 0), w, ?_, a4.symm, a1, by simpa using a2, a3, by simpa using a5⟩
                rw [e1]
                exact run_append_owned_none w w.heap.size t ty (tid et) i et.size s1 s2 (.slice none 0 0) 0 [] (World.ownsRow_nil _ _ _ _)
            · have hown0 : w.ownsRow B (tid et) et.size ((PV.sl b szb).emb E) l.length (l.flatMap et.cells) := rowOk_owns (hM.blk b _ hmb)
              have hflat : (l ++ k).flatMap et.cells = l.flatMap et.cells ++ k.flatMap et.cells := List.flatMap_append
              have fin : ∀ (v' : Value) (w' : World), w'.ownsRow B (tid et) et.size v' (l ++ k).length ((l ++ k).flatMap et.cells) → w.grownBy w' ((PV.sl b szb).emb E).ownBlock → (v'.ownBlock = ((PV.sl b szb).emb E).ownBlock ∨ v'.ownBlock = some w.heap.size) →
                  Agree E (E.place (nb + d) v') m ∧ MemRel tid B (E.place (nb + d) v') (upds m [(nb + d, .row true et (l ++ k)), (b, .gone)]) w' ∧ Below B w w' ∧ (PV.sl (nb + d) et.size).emb (E.place (nb + d) v') = v' ∧ Fr m E w (upds m [(nb + d, .row true et (l ++ k)), (b, .gone)]) (E.place (nb + d) v') w' := by
                intro v' w' hown hg hat
                obtain ⟨p1, p2, p3⟩ := owns_place (E := E) (b := nb + d) (sz := et.size) hown (Nat.le_refl B)
                have blk : ∀ i, ((PV.sl b szb).emb E).ownBlock = some i ↔ ∃ f, E.at_ b = some (i, f) := by
                  intro i
                  simp only [PV.emb]
                  cases hk : E.at_ b with
                  | none => simp [Value.ownBlock]
                  | some q => obtain ⟨q1, q2⟩ := q; simp [Value.ownBlock]
                have keep : ∀ i, i < w.heap.size → (∀ f, E.at_ b ≠ some (i, f)) → w'.heap[i]? = w.heap[i]? := fun i hi hne => hg.block i hi fun e => by
                  obtain ⟨f, hf⟩ := (blk i).1 e.symm
                  exact hne f hf
                have there : ∀ i f, (E.place (nb + d) v').at_ (nb + d) = some (i, f) → E.at_ b = some (i, f) ∨ w.heap.size ≤ i := fun i f hi => by
                  obtain ⟨q1, q2, q3⟩ := p3 i f hi
                  rcases hat with hat | hat
                  · rw [q2] at hat
                    obtain ⟨f', hf'⟩ := (blk i).1 hat.symm
                    have := (own_at (hM.blk b _ hmb) rfl hf').2.1
                    subst this; subst q3
                    exact .inl hf'
                  · rw [q2] at hat
                    have : i = w.heap.size := by simpa using hat
                    exact .inr (by omega)
                refine ⟨place_agree v' hnb, hM.grown hB (place_agree v' hnb) hmb rfl hnb keep p1 rfl there, ⟨hg.os, hg.tape, hg.output, hg.size, fun i hi => hg.block i (Nat.lt_of_lt_of_le hi hB) fun e => ?_⟩, p2, Fr.grown (place_agree v' hnb) hmb rfl keep there⟩
                obtain ⟨f, hf⟩ := (blk i).1 e.symm
                have := (own_at (hM.blk b _ hmb) rfl hf).1
                omega
              rcases second with ⟨g, f, n, cp, e1, rfl, hcs⟩ | ⟨e1, rfl⟩
              · obtain ⟨v', w', hr, hown, hg, _, hat⟩ := run_append_own_at (P := P) w B t ty (tid et) i z et.size i.bytes s1 s2 hz s3 rfl hzs et.size_pos _ l.length _ hown0 ⟨g, f, none⟩ k.length cp (k.flatMap et.cells) (et.flat_length k) hcs (et.flat_one k) h63 hlen hB
                obtain ⟨a1, a2, a3, a4, a5⟩ := fin v' w' (by rw [List.length_append, hflat]; exact hown) hg hat
                refine ⟨v', E.place (nb + d) v', w', ?_, a4.symm, a1, a2, a3, a5⟩
                rw [e1]; exact hr
              · obtain ⟨a1, a2, a3, a4, a5⟩ := fin ((PV.sl b szb).emb E) w (by simpa using hown0) ⟨rfl, rfl, rfl, Nat.le_refl _, fun _ _ _ => rfl⟩ (.inl rfl)
                refine ⟨_, E.place (nb + d) ((PV.sl b szb).emb E), w, ?_, a4.symm, a1, a2, a3, a5⟩
                rw [e1]
                exact run_append_owned_none w B t ty (tid et) i et.size s1 s2 _ l.length _ hown0
        · cases h
      · cases h
  · cases h
end
end Go.Proofs.YtpbklojdmkpkcaaDoor
