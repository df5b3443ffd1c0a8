/- The evaluator: what each operation does. -/
import Derived.Test.YtpbklojdmkpkcaaDoorEvE
import Derived.Laws.CopyRow
import Derived.Laws.StructEq
import Derived.Laws.Rows
import Derived.Lib.LazyBuf
namespace Go.Proofs.YtpbklojdmkpkcaaDoor
open Go Go.RowKit
set_option linter.unusedVariables false
set_option linter.unusedSimpArgs false

/-- Calls: of Go functions (the name for what is new, the arguments, what may be looked at), of functions without a body. -/
structure Orc where
  call : FuncId → Option (Nat → List PV → (Nat → Option Blk) → Tr Out)
  ext : FuncId → Option (List PV → Tr PV)
  et : TypeId → Option ET := fun _ => none
  fuel : Nat := 0

def pureRun (P : Program) {α : Type} : Sem α → Option α
  | .pure a => some a
  | .program k => pureRun P (k P)
  | .mark _ k => pureRun P k
  | _ => none
/-- Is it a struct or an array; how many cells. -/
def tyOf (P : Program) (t : TypeId) : Option (Bool × Nat) := match P.underlying t, P.info? t with
  | some (.struct _), some i => some (true, i.size)
  | some (.array _ _), some i => some (true, i.size)
  | some _, some i => some (false, i.size)
  | _, _ => none
def oneV : Value → Bool
  | .agg _ | .tuple _ => false
  | _ => true
def PV.one : PV → Bool
  | .raw v => oneV v
  | .agg _ | .tup _ => false
  | _ => true
/-- A value's cells. -/
def flat : PV → Option (List PV)
  | .agg l => bif l.all PV.one then some l else none
  | v => bif v.one then some [v] else none
def partPV (P : Program) (t : TypeId) (cs : List PV) (off : Nat) : Option PV := match tyOf P t with
  | some (true, n) => bif Nat.ble (off + n) cs.length then some (.agg ((cs.drop off).take n)) else none
  | some (false, _) => cs[off]?
  | none => none
def patch (cs : List PV) (off : Nat) (vs : List PV) : List PV := cs.take off ++ vs ++ cs.drop (off + vs.length)
def raws (l : List Value) : List PV := l.map .raw
/-- The kinds of an element's cells; an element out of numbers. -/
def ET.kinds : ET → List IntKind
  | .int => [.i64]
  | .u8 => [.u8]
  | .u64 => [.u64]
  | .fix => [.i64, .u64]
  | .vec => [.i64, .u64, .i64, .u64]
  | .body => [.i64, .u64, .i64, .u64, .i64, .u64, .i64, .u64, .i64, .u64, .i64, .u64, .i64, .u64, .i64, .u64, .i64, .u64, .i64, .i64]
  | .tether => [.i64, .i64, .i64, .u64, .i64, .u64]
  | .rail => [.i64, .i64, .u64, .i64, .u64, .i64, .i64, .i64, .i64, .u64]
  | .event => [.i64, .i64, .i64, .i64]
  | .keyed => [.u64, .i64]
  | .node => [.i64, .u64, .i64, .i64, .i64, .i64, .i64, .i64]
  | .cell => [.i64, .u64, .i64, .u64, .i64, .u64, .i64, .u64]
  | .cmd => [.i64, .i64, .i64, .i64, .i64, .u64]
  | .pair => [.i64, .i64]
def mk1 : List Int → Option Int
  | [a] => some a
  | _ => none
def mkFx : List Int → Option Fx
  | [a, b] => some ⟨a, b⟩
  | _ => none
def mkVc : List Int → Option Vc
  | [a, b, c, d] => some ⟨⟨a, b⟩, ⟨c, d⟩⟩
  | _ => none
def mkBody : List Int → Option Body
  | [a0, a1, a2, a3, a4, a5, a6, a7, a8, a9, b0, b1, b2, b3, b4, b5, b6, b7, b8, b9] => some ⟨⟨a0, a1⟩, ⟨a2, a3⟩, ⟨⟨a4, a5⟩, ⟨a6, a7⟩⟩, ⟨⟨a8, a9⟩, ⟨b0, b1⟩⟩, ⟨b2, b3⟩, ⟨b4, b5⟩, ⟨b6, b7⟩, b8, b9⟩
  | _ => none
def mkTether : List Int → Option Tether
  | [a, b, c, d, e, f] => some ⟨a, b, ⟨c, d⟩, ⟨e, f⟩⟩
  | _ => none
def mkRail : List Int → Option Rail
  | [a0, a1, a2, a3, a4, a5, a6, a7, a8, a9] => some ⟨a0, ⟨a1, a2⟩, ⟨a3, a4⟩, a5, a6, a7, ⟨a8, a9⟩⟩
  | _ => none
def mkEvent : List Int → Option Event
  | [a, b, c, d] => some ⟨a, b, c, d⟩
  | _ => none
def mkKeyed : List Int → Option Keyed
  | [a, b] => some ⟨a, b⟩
  | _ => none
def mkNode : List Int → Option Node
  | [a, b, c, d, e, f, g, h] => some ⟨a, b, c, d, e, f, g, h⟩
  | _ => none
def mkCell : List Int → Option Cell
  | [a, b, c, d, e, f, g, h] => some ⟨⟨a, b⟩, ⟨⟨c, d⟩, ⟨e, f⟩⟩, ⟨g, h⟩⟩
  | _ => none
def mkCmd : List Int → Option Cmd
  | [a, b, c, d, e, f] => some ⟨a, b, c, d, ⟨e, f⟩⟩
  | _ => none
def mkPair : List Int → Option Pair
  | [a, b] => some ⟨a, b⟩
  | _ => none
def ET.mk : (t : ET) → List Int → Option t.α
  | .int => mk1
  | .u8 => mk1
  | .u64 => mk1
  | .fix => mkFx
  | .vec => mkVc
  | .body => mkBody
  | .tether => mkTether
  | .rail => mkRail
  | .event => mkEvent
  | .keyed => mkKeyed
  | .node => mkNode
  | .cell => mkCell
  | .cmd => mkCmd
  | .pair => mkPair
def intsOf : List IntKind → List PV → Option (List Int)
  | [], [] => some []
  | k :: ks, .raw (.int k' n) :: r => if k = k' then (intsOf ks r).map (n :: ·) else none
  | _, _ => none
/-- An element out of its cells. -/
def ET.dec (t : ET) (cs : List PV) : Option t.α := match intsOf t.kinds cs with
  | some is => t.mk is
  | none => none

def firstNames : List PV → List Nat
  | v :: _ => v.names
  | [] => []
def footCall : Callee → List PV → (Nat → Option Blk) → List Nat
  | .builtin _, vs, _ => PV.namess vs
  | _, vs, m => reach m 3 (PV.namess vs)
def footOf (o : Oper) (vals : List PV) (m : Nat → Option Blk) : List Nat := match o.op with
  | .load _ _ => firstNames vals
  | .store _ _ _ => firstNames vals
  | .indexAddr _ _ _ => firstNames vals
  | .call c => footCall c.callee vals m
  | _ => []

def optT {α : Type} (n : Nat) : Option α → Tr α
  | some a => .ret a
  | none => .bad n
def putT (v : PV) : Tr Out := .ret { put := v }
/-- '==' of two values of a type. -/
def eqFs (P : Program) (eq : TypeId → PV → PV → Option Bool) (xs ys : List PV) : List Field → Option Bool
  | [] => some true
  | f :: fs => bif f.name == "_" then none else match partPV P f.type xs f.offset, partPV P f.type ys f.offset with
    | some a, some b => match eq f.type a b, eqFs P eq xs ys fs with
      | some r, some s => some (r && s)
      | _, _ => none
    | _, _ => none
def eqB (P : Program) : Nat → TypeId → PV → PV → Option Bool
  | 0, _, _, _ => none
  | n + 1, t, x, y => match P.underlying t, x, y with
    | some .bool, .raw (.bool a), .raw (.bool b) => some (a == b)
    | some (.int _), .raw (.int k a), .raw (.int k' b) => if k = k' then some (a == b) else none
    | some (.struct fs), .agg xs, .agg ys => bif P.stoodInHeld t then none else eqFs P (eqB P n) xs ys fs.toList
    | _, _, _ => none
/-- Cells that hold whole numbers of one kind. -/
def intsK : List PV → Option (IntKind × List Int)
  | [] => none
  | .raw (.int k n) :: r => match r with
    | [] => some (k, [n])
    | _ :: _ => match intsK r with
      | some (k', l) => if k = k' then some (k, n :: l) else none
      | none => none
  | _ => none
/-- A cell at an index that need not be known. -/
def arrPV (P : Program) (t : TypeId) (cs : List PV) (j : Nat) : Tr PV := match intsK cs, tyOf P t with
  | some (k, l), some (false, _) => .chk (Nat.blt j cs.length) (.ret (.int k (l.getD j 0)))
  | _, _ => optT 10 (partPV P t cs j)
def arrSet (cs : List PV) (j : Nat) (vs : List PV) : Tr (List PV) := match intsK cs, vs with
  | some (k, l), [.raw (.int k' x)] => if k = k' then .ret ((List.range cs.length).map fun q => .int k ((l.set j x).getD q 0)) else .ret (patch cs j vs)
  | _, _ => .ret (patch cs j vs)
def coreLoad (P : Program) (t : TypeId) (v : PV) (m : Nat → Option Blk) : Tr PV := match v with
  | .ptr b sz i off => match m b with
    | some (.cells cs _) => bif Nat.beq sz 0 then optT 10 (partPV P t cs (i * sz + off)) else arrPV P t cs (i * sz + off)
    | some (.row _ et l) => bif Nat.beq sz et.size then .chk (Nat.blt i l.length) (optT 11 (partPV P t (raws (et.cells (l.getD i et.dflt))) off)) else .bad 12
    | _ => .bad 13
  | _ => .bad 14
def coreStore (P : Program) (t : TypeId) (v u : PV) (m : Nat → Option Blk) : Tr Out := match v, flat u, tyOf P t with
  | .ptr b sz i off, some vs, some (_, n) => bif Nat.beq vs.length n then match m b with
      | some (.cells cs ty) => bif Nat.beq sz 0 then (bif Nat.ble (i * sz + off + n) cs.length then .ret { put := .raw undef, ups := [(b, .cells (patch cs (i * sz + off) vs) ty)] } else .bad 15)
        else .chk (Nat.ble (i * sz + off + n) cs.length) ((arrSet cs (i * sz + off) vs).bind fun l => .ret { put := .raw undef, ups := [(b, .cells l ty)] })
      | some (.row true et l) => bif Nat.beq sz et.size && Nat.ble (off + n) et.size then .chk (Nat.blt i l.length) (match et.dec (patch (raws (et.cells (l.getD i et.dflt))) off vs) with
        | some x => .ret { put := .raw undef, ups := [(b, .row true et (l.set i x))] }
        | none => .bad 16) else .bad 17
      | _ => .bad 18
    else .bad 19
  | _, _, _ => .bad 20
def fieldOf (P : Program) (t : TypeId) (i : Nat) : Option Field := match P.underlying t with
  | some (.struct fs) => fs[i]?
  | _ => none
def placesOf (P : Program) : List Field → Option (List (Nat × Nat))
  | [] => some []
  | f :: r => match P.info? f.type, placesOf P r with
    | some i, some l => some ((f.offset, i.size) :: l)
    | _, _ => none
def fillPV (pl : List (Nat × Nat)) : List (Nat × PV) → List PV → Option (List PV)
  | [], cs => some cs
  | (i, v) :: r, cs => match pl[i]?, flat v with
    | some (off, n), some vs => bif Nat.beq vs.length n && Nat.ble (off + n) cs.length then fillPV pl r (patch cs off vs) else none
    | _, _ => none
def coreBuild (P : Program) (t : TypeId) (parts : List (Nat × PV)) : Option PV := match P.underlying t, (P.info? t).bind (·.zero) with
  | some (.struct fs), some z => match placesOf P fs.toList with
    | some pl => (fillPV pl parts (raws z.cells.toList)).map .agg
    | none => none
  | _, _ => none
def zeroPV (P : Program) (t : TypeId) : Option (List PV) := ((P.info? t).bind (·.zero)).map fun z => raws z.cells.toList
def one1 : List PV → (PV → Tr Out) → Tr Out
  | [v], k => k v
  | _, _ => .bad 60
def two2 : List PV → (PV → PV → Tr Out) → Tr Out
  | [v, u], k => k v u
  | _, _ => .bad 61
def coreAlloc (P : Program) (nb : Nat) (dst : Option Tmp) (t : TypeId) : Tr Out := match dst, zeroPV P t with
  | some d, some z => .ret { put := .ptr (nb + d) 0 0 0, news := [(nb + d, .cells z t)] }
  | _, _ => .bad 21
def coreBox (nb : Nat) (dst : Option Tmp) (t : TypeId) (v : PV) : Tr Out := match dst, flat v with
  | some d, some cs => .ret { put := .ptr (nb + d) 0 0 0, news := [(nb + d, .cells cs t)] }
  | _, _ => .bad 22
def coreFieldAddr (P : Program) (t : TypeId) (i : Nat) (v : PV) : Tr PV := match v, fieldOf P t i with
  | .ptr b sz j off, some f => match P.info? f.type with
    | some ti => bif Nat.beq ti.size 0 then .bad 23 else .ret (.ptr b sz j (off + f.offset))
    | none => .bad 24
  | _, _ => .bad 25
def coreField (P : Program) (t : TypeId) (i : Nat) (v : PV) : Tr PV := match v, fieldOf P t i with
  | .agg l, some f => optT 26 (partPV P f.type l f.offset)
  | _, _ => .bad 27
def coreExtract (i : Nat) (v : PV) : Tr PV := match v with
  | .tup l => optT 28 l[i]?
  | _ => .bad 28
def coreUn (P : Program) (op : UnOp) (v : PV) : Tr PV := match v with
  | .raw v => match pureRun P (Op.unary op v) with
    | some u => .ret (.raw u)
    | none => .bad 30
  | _ => .bad 30
def coreConvert (P : Program) (a b : TypeId) (v : PV) : Tr PV := match v with
  | .raw v => match pureRun P (convert a b v) with
    | some u => .ret (.raw u)
    | none => .bad 31
  | _ => .bad 31
/-- Two whole numbers of one kind. -/
def coreInts (P : Program) (op : BinOp) (k : IntKind) (x y : Int) : Tr PV := match op with
  | .quo => .chk (y != 0) (.ret (.int k (k.wrap (x.tdiv y))))
  | .rem => .chk (y != 0) (.ret (.int k (x.tmod y)))
  | .add => .ret (.int k (k.wrap (x + y)))
  | .sub => .ret (.int k (k.wrap (x - y)))
  | .mul => .ret (.int k (k.wrap (x * y)))
  | .eql => .ret (.raw (.bool (x == y)))
  | .neq => .ret (.raw (.bool (x != y)))
  | .lss => .ret (.raw (.bool (x < y)))
  | .leq => .ret (.raw (.bool (x ≤ y)))
  | .gtr => .ret (.raw (.bool (x > y)))
  | .geq => .ret (.raw (.bool (x ≥ y)))
  | .and => .ret (.int k (k.wrap (BitVec.ofInt k.bits x &&& BitVec.ofInt k.bits y).toNat))
  | .or => .ret (.int k (k.wrap (BitVec.ofInt k.bits x ||| BitVec.ofInt k.bits y).toNat))
  | .xor => .ret (.int k (k.wrap (BitVec.ofInt k.bits x ^^^ BitVec.ofInt k.bits y).toNat))
  | .andNot => .ret (.int k (k.wrap (BitVec.ofInt k.bits x &&& ~~~ BitVec.ofInt k.bits y).toNat))
  | _ => .bad 44
def coreEq (P : Program) (op : BinOp) (t : TypeId) (x y : PV) : Tr PV := bif P.eqGuardType P.depth t then .bad 45 else match op, eqB P 8 t x y with
  | .eql, some r => .ret (.raw (.bool r))
  | .neq, some r => .ret (.raw (.bool (!r)))
  | _, _ => .bad 46
def coreBin (P : Program) (op : BinOp) (t : TypeId) (x y : PV) : Tr PV := match x, y with
  | .raw (.int k x), .raw (.int k' y) => match op with
    | .shl => .chk (decide (0 ≤ y)) (.ret (.int k (k.wrap (x * 2 ^ min y.toNat k.bits))))
    | .shr => .chk (decide (0 ≤ y)) (.ret (.int k (x.fdiv (2 ^ min y.toNat k.bits))))
    | op => if k = k' then coreInts P op k x y else .bad 32
  | .raw (.bool a), .raw (.bool b) => coreEq P op t (.raw (.bool a)) (.raw (.bool b))
  | .agg xs, .agg ys => coreEq P op t (.agg xs) (.agg ys)
  | .sl b _, .raw (.slice none 0 0) => match op, P.underlying t with
    | .eql, some (.slice _) => .ret (.isnil b false)
    | .neq, some (.slice _) => .ret (.isnil b true)
    | _, _ => .bad 33
  | _, _ => .bad 34
def corePick : List PV → Tr PV
  | [.raw (.bool c), .raw (.bool x), .raw (.bool y)] => .ret (.raw (.bool (bif c then x else y)))
  | [.raw (.bool c), x, y] => bif c then .ret x else .ret y
  | _ => .bad 35
def coreNil : PV → Tr PV
  | .ptr b sz i off => .ret (.ptr b sz i off)
  | .clo f caps => .ret (.clo f caps)
  | _ => .bad 36
def coreIndexAddr (P : Program) (t : TypeId) (m : Nat → Option Blk) (v u : PV) : Tr PV := match v, u, P.underlying t with
  | .sl b sz, .raw (.int _ i), some (.slice e) => match m b, P.info? e with
    | some (.row _ et l), some ei => bif Nat.beq ei.size sz && Nat.beq sz et.size then .chk (decide (0 ≤ i) && decide (i < (l.length : Int))) (.ret (.ptr b sz i.toNat 0)) else .bad 48
    | _, _ => .bad 49
  | .ptr b sz j off, .raw (.int _ i), some (.array n e) => match P.info? e with
    | some ei => bif Nat.beq sz 0 && !Nat.beq ei.size 0 then .chk (decide (0 ≤ i) && decide (i < (n : Int))) (.ret (.ptr b ei.size i.toNat off)) else .bad 50
    | none => .bad 50
  | _, _, _ => .bad 50
def coreIndex (P : Program) (t : TypeId) (v u : PV) : Tr PV := match v, u, P.underlying t with
  | .agg l, .raw (.int _ i), some (.array n e) => match P.info? e with
    | some ei => .chk (decide (0 ≤ i) && decide (i < (n : Int))) (arrPV P e l (i.toNat * ei.size))
    | none => .bad 59
  | _, _, _ => .bad 59
def coreBuiltin (P : Program) (b : Builtin) (ts : Array TypeId) (vs : List PV) (m : Nat → Option Blk) : Tr PV := match b with
  | .len => match vs, (ts[0]?).bind P.underlying with
    | [.sl b _], some (.slice _) => match m b with
      | some (.row _ _ l) => .ret (.int .i64 (l.length : Int))
      | _ => .bad 51
    | [.raw (.slice none 0 0)], some (.slice _) => .ret (.int .i64 0)
    | _, _ => .bad 52
  | .max => match vs with
    | [.raw (.int k x), .raw (.int _ y)] => .ret (.int k (if y > x then y else x))
    | _ => .bad 53
  | .min => match vs with
    | [.raw (.int k x), .raw (.int _ y)] => .ret (.int k (if y < x then y else x))
    | _ => .bad 54
  | _ => .bad 55
def coreCall (O : Orc) (nb : Nat) (dst : Option Tmp) (vs : List PV) (m : Nat → Option Blk) : Tr Out := match dst, vs with
  | some d, .clo f caps :: args => match O.call f with
    | some M => M (nb + d) (args ++ caps) m
    | none => match O.ext f with
      | some M => (M (args ++ caps)).bind putT
      | none => .bad (1000 + f)
  | _, _ => .bad 56
/-- Elements out of values. -/
def elems (et : ET) : List PV → Option (List et.α)
  | [] => some []
  | v :: r => match flat v with
    | some cs => match et.dec cs, elems et r with
      | some x, some l => some (x :: l)
      | _, _ => none
    | none => none
def sliceOf (P : Program) (O : Orc) (t : TypeId) : Option (ET × TypeInfo) := match P.underlying t with
  | some (.slice e) => match O.et e, P.info? e with
    | some et, some i => bif Nat.beq i.size et.size then some (et, i) else none
    | _, _ => none
  | _ => none
def zeroEl (i : TypeInfo) (et : ET) : Option et.α := match i.zero with
  | some z => et.dec (raws z.cells.toList)
  | none => none
def coreLit (P : Program) (O : Orc) (nb : Nat) (dst : Option Tmp) (t : TypeId) (len : Nat) (idx : List Nat) (vals : List PV) : Tr Out := match dst, sliceOf P O t with
  | some d, some (et, i) => match elems et vals with
    | some l => bif (zeroEl i et).isSome && Nat.beq len vals.length && idx == List.range len && Nat.ble (len * et.size) 16777216 then .ret { put := .sl (nb + d) et.size, news := [(nb + d, .row true et l)] } else .bad 62
    | none => .bad 63
  | _, _ => .bad 64
def coreMake (P : Program) (O : Orc) (nb : Nat) (dst : Option Tmp) (t : TypeId) (v u : PV) : Tr Out := match dst, sliceOf P O t, v, u with
  | some d, some (et, i), .raw (.int _ n), .raw (.int _ c) => match zeroEl i et with
    | some z => .chk (decide (0 ≤ n) && decide (n ≤ c) && decide ((i.bytes : Int) * c ≤ 281474976710656) && decide (c ≤ 1000000000000000000)) (.ret { put := .sl (nb + d) et.size, news := [(nb + d, .row true et (List.replicate n.toNat z))] })
    | none => .bad 65
  | _, _, _, _ => .bad 66
/-- What is appended to: its name, if it has one, and what it holds. -/
def baseOf (m : Nat → Option Blk) (et : ET) : PV → Option (List (Nat × Blk) × List et.α)
  | .raw (.slice none 0 0) => some ([], [])
  | .sl b sz => match m b with
    | some (.row true t l) => if h : t = et then some ([(b, .gone)], h ▸ l) else none
    | _ => none
  | _ => none
def moreOf (m : Nat → Option Blk) (et : ET) : PV → Option (List et.α)
  | .sl b sz => match m b with
    | some (.row _ t l) => if h : t = et then some (h ▸ l) else none
    | _ => none
  | _ => none
def coreAppend (P : Program) (O : Orc) (nb : Nat) (dst : Option Tmp) (ts : List TypeId) (v u : PV) (m : Nat → Option Blk) : Tr Out := match dst, ts with
  | some d, [t, t'] => bif Nat.beq t t' then match sliceOf P O t with
    | some (et, i) => match baseOf m et v, moreOf m et u, zeroEl i et with
      | some (ups, l), some k, some _ => bif Nat.blt 0 i.bytes then .chk (Nat.ble ((l.length + k.length) * i.bytes) 140737488355328) (.ret { put := .sl (nb + d) et.size, news := [(nb + d, .row true et (l ++ k))], ups := ups }) else .bad 67
      | _, _, _ => .bad 68
    | none => .bad 69
    else .bad 69
  | _, _ => .bad 69
def coreFunc (fn : Fn) (bare : Bool) (vals : List PV) : Tr Out := match fn with
  | .func f => bif bare then putT (.clo f vals) else .bad 47
  | _ => .bad 47
def coreAny (P : Program) (O : Orc) (nb : Nat) (dst : Option Tmp) (c : Callee) (ts : Array TypeId) (vals : List PV) (m : Nat → Option Blk) : Tr Out := match c with
  | .builtin .append => two2 vals fun v u => coreAppend P O nb dst ts.toList v u m
  | .builtin b => (coreBuiltin P b ts vals m).bind putT
  | .value _ => coreCall O nb dst vals m
  | .invoke _ _ => .bad 58
def core (P : Program) (O : Orc) (nb : Nat) (o : Oper) (vals : List PV) (m : Nat → Option Blk) : Tr Out := match o.op with
  | .move _ => one1 vals putT
  | .assign _ => one1 vals putT
  | .alloc t => coreAlloc P nb o.dst t
  | .box t _ => one1 vals (coreBox nb o.dst t)
  | .load t _ => one1 vals fun v => (coreLoad P t v m).bind putT
  | .store t _ _ => two2 vals fun v u => coreStore P t v u m
  | .fieldAddr t _ i => one1 vals fun v => (coreFieldAddr P t i v).bind putT
  | .field t _ i => one1 vals fun v => (coreField P t i v).bind putT
  | .extract _ i => one1 vals fun v => (coreExtract i v).bind putT
  | .build t ps => (optT 29 (coreBuild P t ((ps.toList.map (·.1)).zip vals))).bind putT
  | .unOp op _ _ => one1 vals fun v => (coreUn P op v).bind putT
  | .convert a b _ => one1 vals fun v => (coreConvert P a b v).bind putT
  | .binOp op t _ _ _ => two2 vals fun x y => (coreBin P op t x y).bind putT
  | .pick _ _ _ => (corePick vals).bind putT
  | .nilCheck _ => one1 vals fun v => (coreNil v).bind putT
  | .makeFunc fn first _ => coreFunc fn first.isEmpty vals
  | .indexAddr t _ _ => two2 vals fun v u => (coreIndexAddr P t m v u).bind putT
  | .index t _ _ => two2 vals fun v u => (coreIndex P t v u).bind putT
  | .buildSlice t n ps => coreLit P O nb o.dst t n (ps.toList.map (·.1)) vals
  | .makeSlice t _ _ => two2 vals fun v u => coreMake P O nb o.dst t v u
  | .call c => coreAny P O nb o.dst c.callee c.argTypes vals m
  | _ => .bad 57
def mkDoer (P : Program) (O : Orc) (nb k : Nat) : Doer := { foot := footOf, core := core P O (nb + k * 1000), fuel := O.fuel }

theorem reach_sub {m : Nat → Option Blk} : ∀ {n : Nat} {l : List Nat}, ∀ b ∈ l, b ∈ reach m n l
  | 0, _, b, h => h
  | n + 1, _, b, h => List.mem_append_left _ h
theorem reach_local {m m' : Nat → Option Blk} : ∀ (n : Nat) (l : List Nat), (∀ b ∈ reach m n l, m' b = m b) → reach m' n l = reach m n l
  | 0, _, _ => rfl
  | n + 1, l, h => by
    simp only [reach]
    have e : l.flatMap (namesIn m') = l.flatMap (namesIn m) := by
      rw [List.flatMap_def, List.flatMap_def]
      congr 1
      refine List.map_congr_left (fun b hb => ?_)
      unfold namesIn
      rw [h b (List.mem_append_left _ hb)]
    rw [e, reach_local n _ (fun b hb => h b (List.mem_append_right _ hb))]
theorem mkDoer_local (P : Program) (O : Orc) (nb k : Nat) : (mkDoer P O nb k).Local := by
  intro o vals m m' h
  show footOf o vals m' = footOf o vals m
  have h : ∀ n ∈ footOf o vals m, m' n = m n := h
  unfold footOf at *
  cases ho : o.op with
  | call c =>
    rw [ho] at h
    simp only at h ⊢
    cases hc : c.callee with
    | builtin b => rfl
    | value f => rw [hc] at h; exact reach_local 3 _ h
    | invoke r n => rw [hc] at h; exact reach_local 3 _ h
  | _ => rfl
end Go.Proofs.YtpbklojdmkpkcaaDoor
