/- The evaluator: how what it tells stands to the model's memory; one operation, carried out. -/
import Derived.Test.YtpbklojdmkpkcaaDoorEvD
namespace Go.Proofs.YtpbklojdmkpkcaaDoor
open Go Go.RowKit
set_option linter.unusedVariables false
set_option linter.unusedSimpArgs false

def Fx.cells (x : Fx) : List Value := [.int .i64 x.h, .int .u64 x.l]
def Vc.cells (x : Vc) : List Value := [.int .i64 x.X.h, .int .u64 x.X.l, .int .i64 x.Y.h, .int .u64 x.Y.l]
def ET.cells : (t : ET) → t.α → List Value
  | .int, (x : Int) => [.int .i64 x]
  | .u8, (x : Int) => [.int .u8 x]
  | .u64, (x : Int) => [.int .u64 x]
  | .fix, (x : Fx) => x.cells
  | .vec, (x : Vc) => x.cells
  | .body, (x : Body) => [.int .i64 x.Mass.h, .int .u64 x.Mass.l, .int .i64 x.Radius.h, .int .u64 x.Radius.l, .int .i64 x.X.X.h, .int .u64 x.X.X.l, .int .i64 x.X.Y.h, .int .u64 x.X.Y.l, .int .i64 x.P.X.h, .int .u64 x.P.X.l, .int .i64 x.P.Y.h, .int .u64 x.P.Y.l,
      .int .i64 x.Fuel.h, .int .u64 x.Fuel.l, .int .i64 x.Rate.h, .int .u64 x.Rate.l, .int .i64 x.Exhaust.h, .int .u64 x.Exhaust.l, .int .i64 x.Throttle, .int .i64 x.Heading]
  | .tether, (x : Tether) => [.int .i64 x.A, .int .i64 x.B, .int .i64 x.Len.h, .int .u64 x.Len.l, .int .i64 x.Limit.h, .int .u64 x.Limit.l]
  | .rail, (x : Rail) => [.int .i64 x.Parent, .int .i64 x.Long.h, .int .u64 x.Long.l, .int .i64 x.Ecc.h, .int .u64 x.Ecc.l, .int .i64 x.Turn, .int .i64 x.Phase, .int .i64 x.Period, .int .i64 x.Sphere.h, .int .u64 x.Sphere.l]
  | .event, (x : Event) => [.int .i64 x.Tick, .int .i64 x.Kind, .int .i64 x.A, .int .i64 x.B]
  | .keyed, (x : Keyed) => [.int .u64 x.Key, .int .i64 x.Id]
  | .node, (x : Node) => [.int .i64 x.Level, .int .u64 x.Key, .int .i64 x.From, .int .i64 x.To, .int .i64 x.K0, .int .i64 x.K1, .int .i64 x.K2, .int .i64 x.K3]
  | .cell, (x : Cell) => [.int .i64 x.Mass.h, .int .u64 x.Mass.l, .int .i64 x.At.X.h, .int .u64 x.At.X.l, .int .i64 x.At.Y.h, .int .u64 x.At.Y.l, .int .i64 x.Width.h, .int .u64 x.Width.l]
  | .cmd, (x : Cmd) => [.int .i64 x.Kind, .int .i64 x.N, .int .i64 x.A, .int .i64 x.B, .int .i64 x.F.h, .int .u64 x.F.l]
  | .pair, (x : Pair) => [.int .i64 x.a, .int .i64 x.b]
def ET.size : ET → Nat
  | .int | .u8 | .u64 => 1
  | .fix | .keyed | .pair => 2
  | .vec | .event => 4
  | .body => 20
  | .tether | .cmd => 6
  | .rail => 10
  | .node | .cell => 8
theorem ET.cells_length : ∀ (t : ET) (x : t.α), (t.cells x).length = t.size
  | .int, _ | .u8, _ | .u64, _ | .fix, _ | .vec, _ | .body, _ | .tether, _ | .rail, _ | .event, _ | .keyed, _ | .node, _ | .cell, _ | .cmd, _ | .pair, _ => rfl
theorem ET.size_pos (t : ET) : 0 < t.size := by cases t <;> decide

/-- A row of elements under a name. -/
def RowOk (tid : ET → TypeId) (B : Nat) (E : Env) (w : World) (b : Nat) (own : Bool) (t : ET) (l : List t.α) : Prop :=
  match E.at_ b with
  | none => l = []
  | some (k, f) => l.length = E.len b ∧ l.length ≤ E.cap b ∧ (∀ j, j < l.length * t.size → w.cell? ⟨k, f + j, none⟩ = (l.flatMap t.cells)[j]?) ∧ (own = false → k < B) ∧
      (own = true → B ≤ k ∧ f = 0 ∧ E.cap b ≤ maxLen ∧ ∃ arr, w.heap[k]? = some (.cells arr (tid t) (0, 0)) ∧ arr.size = E.cap b * t.size)
def BlkOk (tid : ET → TypeId) (B : Nat) (E : Env) (w : World) (b : Nat) : Blk → Prop
  | .cells cs ty => ∃ k, E.at_ b = some (k, 0) ∧ B ≤ k ∧ w.heap[k]? = some (.cells (PV.embs E cs).toArray ty (0, 0))
  | .row own t l => RowOk tid B E w b own t l
  | .gone => True
structure MemRel (tid : ET → TypeId) (B : Nat) (E : Env) (m : Nat → Option Blk) (w : World) : Prop where
  blk : ∀ b k, m b = some k → BlkOk tid B E w b k
  ok : ∀ b k, m b = some k → ∀ n ∈ k.names, (m n).isSome = true
  apart : ∀ b c k k' i j f g, b ≠ c → m b = some k → m c = some k' → k.own = true → k'.own = true → E.at_ b = some (i, f) → E.at_ c = some (j, g) → i ≠ j
/-- What holds of a world's blocks below a number. -/
structure WInv where
  p : Nat → World → Prop
  below : ∀ B w w', p B w → Below B w w' → p B w'
  mono : ∀ B B' w, p B w → B ≤ B' → p B' w
def Agree (E E' : Env) (m : Nat → Option Blk) : Prop := ∀ b, (m b).isSome = true → E'.at_ b = E.at_ b ∧ E'.len b = E.len b ∧ E'.cap b = E.cap b
/-- What of the world is as it was: all but what its own blocks were; an own block lies where one lay, or is new. -/
structure Fr (m : Nat → Option Blk) (E : Env) (w : World) (m' : Nat → Option Blk) (E' : Env) (w' : World) : Prop where
  keep : ∀ i, i < w.heap.size → (∀ b k f, m b = some k → k.own = true → E.at_ b ≠ some (i, f)) → w'.heap[i]? = w.heap[i]?
  orig : ∀ b k i f, m' b = some k → k.own = true → E'.at_ b = some (i, f) → i < w.heap.size → ∃ c k' g, m c = some k' ∧ k'.own = true ∧ E.at_ c = some (i, g)
theorem Fr.refl (m : Nat → Option Blk) (E : Env) (w : World) : Fr m E w m E w := ⟨fun _ _ _ => rfl, fun b k i f h1 h2 h3 _ => ⟨b, k, f, h1, h2, h3⟩⟩
theorem Fr.trans {m m' m2 : Nat → Option Blk} {E E' E2 : Env} {w w' w2 : World} (h : Fr m E w m' E' w') (hs : w.heap.size ≤ w'.heap.size) (h' : Fr m' E' w' m2 E2 w2) : Fr m E w m2 E2 w2 := by
  refine ⟨fun i hi hn => ?_, fun b k i f h1 h2 h3 hi => ?_⟩
  · rw [h'.keep i (by omega) fun b k f h1 h2 h3 => ?_, h.keep i hi hn]
    obtain ⟨c, k', g, a1, a2, a3⟩ := h.orig b k i f h1 h2 h3 hi
    exact hn c k' g a1 a2 a3
  · obtain ⟨c, k', g, a1, a2, a3⟩ := h'.orig b k i f h1 h2 h3 (by omega)
    exact h.orig c k' i g a1 a2 a3 hi
structure Rel (tid : ET → TypeId) (I : WInv) (B : Nat) (w0 : World) (nt : Nat) (E0 : Env) (m0 : Nat → Option Blk) (E : Env) (s : St) (a : Act) (w : World) : Prop where
  defers : a.defers = []
  size : a.tmps.size = nt
  tmps : ∀ t v, s.tmps t = some v → a.tmps.getD t undef = v.emb E
  lt : ∀ t v, s.tmps t = some v → t < nt
  tok : ∀ t v, s.tmps t = some v → ∀ n ∈ v.names, (s.mem n).isSome = true
  mem : MemRel tid B E s.mem w
  below : Below B w0 w
  base : B ≤ w0.heap.size
  inv : I.p B w
  from_ : Agree E0 E m0
  dom : ∀ b, (m0 b).isSome = true → (s.mem b).isSome = true
  frame : Fr m0 E0 w0 s.mem E w

theorem Agree.refl (E : Env) (m : Nat → Option Blk) : Agree E E m := fun _ _ => ⟨rfl, rfl, rfl⟩
mutual
theorem PV.emb_congr {E E' : Env} : ∀ v : PV, (∀ n ∈ v.names, E'.at_ n = E.at_ n ∧ E'.len n = E.len n ∧ E'.cap n = E.cap n) → v.emb E' = v.emb E
  | .raw _, _ => rfl
  | .ptr b _ _ _, h => by simp only [PV.emb, (h b (by simp [PV.names])).1]
  | .sl b _, h => by simp only [PV.emb, (h b (by simp [PV.names])).1, (h b (by simp [PV.names])).2.1, (h b (by simp [PV.names])).2.2]
  | .agg l, h => by simp only [PV.emb]; rw [PV.embs_congr l (fun n hn => h n hn)]
  | .tup l, h => by simp only [PV.emb]; rw [PV.embs_congr l (fun n hn => h n hn)]
  | .clo _ l, h => by simp only [PV.emb]; rw [PV.embs_congr l (fun n hn => h n hn)]
  | .isnil b _, h => by simp only [PV.emb, (h b (by simp [PV.names])).1]
theorem PV.embs_congr {E E' : Env} : ∀ l : List PV, (∀ n ∈ PV.namess l, E'.at_ n = E.at_ n ∧ E'.len n = E.len n ∧ E'.cap n = E.cap n) → PV.embs E' l = PV.embs E l
  | [], _ => rfl
  | v :: r, h => by
    simp only [PV.embs]
    rw [PV.emb_congr v (fun n hn => h n (by simp [PV.namess, hn])), PV.embs_congr r (fun n hn => h n (by simp [PV.namess, hn]))]
end
theorem embs_map (E : Env) : ∀ l : List PV, PV.embs E l = l.map (PV.emb E)
  | [] => rfl
  | v :: r => by simp [PV.embs, embs_map E r]
theorem namess_mem {n : Nat} : ∀ l : List PV, n ∈ PV.namess l ↔ ∃ v ∈ l, n ∈ v.names
  | [] => by simp [PV.namess]
  | v :: r => by simp [PV.namess, namess_mem r]
theorem PV.emb_agree {E E' : Env} {m : Nat → Option Blk} (hA : Agree E E' m) {v : PV} (h : ∀ n ∈ v.names, (m n).isSome = true) : v.emb E' = v.emb E :=
  PV.emb_congr v fun n hn => hA n (h n hn)

/-- How one operation is to be done: what the evaluator tells of it is so. -/
def DoerOk (P : Program) (tid : ET → TypeId) (I : WInv) (D : Doer) : Prop := ∀ (B : Nat) (o : Oper) (vals : List PV) (m : Nat → Option Blk) (out : Out) (E : Env) (a : Act) (w : World) (K : Act → World → Prop) (Q : Exit → Act → World → Prop),
  o.op.operands.toList.map a.eval = vals.map (PV.emb E) → (∀ v ∈ vals, ∀ n ∈ v.names, (m n).isSome = true) → MemRel tid B E m w → B ≤ w.heap.size → I.p B w →
  (D.core o vals (restr m (D.foot o vals m))).run = some out → (∀ b ∈ out.news.map (·.1), m b = none) → (∀ u ∈ out.ups, (m u.1).isSome = true) → (∀ n ∈ out.put.names ++ (out.news ++ out.ups).flatMap (·.2.names), (m n).isSome = true ∨ n ∈ out.news.map (·.1)) →
  (out.news.map (·.1)).Nodup →
  (∀ E' w', Agree E E' m → MemRel tid B E' (upds m (out.news ++ out.ups)) w' → Below B w w' → Fr m E w (upds m (out.news ++ out.ups)) E' w' → K (a.put o.dst (out.put.emb E')) w') → o.wp P a w K Q

theorem getD_put {a : Act} {d : Option Tmp} {v : Value} {t : Nat} (h : t ∉ d.toList) : (a.put d v).tmps.getD t undef = a.tmps.getD t undef := by
  cases d with
  | none => rfl
  | some d =>
    have : d ≠ t := by simpa using fun e => h (by simp [e])
    simp [Act.put, Array.getElem?_setIfInBounds_ne this]
theorem getD_put_self {a : Act} {d : Tmp} {v : Value} (h : d < a.tmps.size) : (a.put (some d) v).tmps.getD d undef = v := by
  simp [Act.put, h]
theorem put_size (a : Act) (d : Option Tmp) (v : Value) : (a.put d v).tmps.size = a.tmps.size := by cases d <;> simp [Act.put]
theorem put_defers (a : Act) (d : Option Tmp) (v : Value) : (a.put d v).defers = a.defers := by cases d <;> rfl

section
variable {P : Program} {tid : ET → TypeId} {I : WInv} {B : Nat} {w0 : World} {nt : Nat} {E0 : Env} {m0 : Nat → Option Blk} {D : Doer} {ops : Array Oper} {Q : Exit → Act → World → Prop}
theorem Rel.app {E E' : Env} {s : St} {a : Act} {w w' : World} {R : List Nat} {o : Oper} {out : Out} (h : Rel tid I B w0 nt E0 m0 E s a w) (hk : okOut nt s R o.dst out = true) (hA : Agree E E' s.mem)
    (hM : MemRel tid B E' (upds s.mem (out.news ++ out.ups)) w') (hB : Below B w w') (hF : Fr s.mem E w (upds s.mem (out.news ++ out.ups)) E' w') : Rel tid I B w0 nt E0 m0 E' (s.app o.dst out) (a.put o.dst (out.put.emb E')) w' := by
  rw [okOut_iff] at hk
  obtain ⟨k1, k2, k3, k4⟩ := hk
  have dom : ∀ n, (s.mem n).isSome = true → ((s.app o.dst out).mem n).isSome = true := fun n hn => app_dom.2 (.inl hn)
  have cases_ : ∀ t v, (s.app o.dst out).tmps t = some v → (t ∈ o.dst.toList ∧ v = out.put) ∨ (t ∉ o.dst.toList ∧ s.tmps t = some v) := by
    intro t v hv
    by_cases ht : t ∈ o.dst.toList
    · left
      refine ⟨ht, ?_⟩
      cases hd : o.dst with
      | none => rw [hd] at ht; simp at ht
      | some d =>
        rw [hd] at ht hv
        simp at ht
        subst ht
        rw [show (s.app (some t) out).tmps = upd s.tmps t out.put from rfl, upd_same] at hv
        exact (Option.some.inj hv).symm
    · rw [app_tmps_ne ht] at hv
      exact .inr ⟨ht, hv⟩
  refine ⟨by rw [put_defers]; exact h.defers, by rw [put_size]; exact h.size, fun t v hv => ?_, fun t v hv => ?_, fun t v hv n hn => ?_, hM, h.below.trans hB, h.base, I.below _ _ _ h.inv hB, fun b hb => ?_, fun b hb => dom b (h.dom b hb), h.frame.trans h.below.size hF⟩
  · rcases cases_ t v hv with ⟨ht, rfl⟩ | ⟨ht, hv⟩
    · cases hd : o.dst with
      | none => rw [hd] at ht; simp at ht
      | some d =>
        rw [hd] at ht k1
        simp at ht
        subst ht
        exact getD_put_self (by rw [h.size]; exact k1 t (by simp))
    · rw [getD_put ht, h.tmps t v hv, PV.emb_agree hA (h.tok t v hv)]
  · rcases cases_ t v hv with ⟨ht, rfl⟩ | ⟨ht, hv⟩
    · exact k1 t ht
    · exact h.lt t v hv
  · rcases cases_ t v hv with ⟨ht, rfl⟩ | ⟨ht, hv⟩
    · rcases k3 n hn with hn | hn
      · exact dom n hn
      · exact app_dom.2 (.inr (all_mem.2 (.inl hn)))
    · exact dom n (h.tok t v hv n hn)
  · have h1 := h.from_ b hb
    have h2 := hA b (h.dom b hb)
    exact ⟨h2.1.trans h1.1, h2.2.1.trans h1.2.1, h2.2.2.trans h1.2.2⟩
theorem ofV_emb (E : Env) (v : Value) : (PV.ofV v).emb E = v := by
  cases v with
  | agg cs =>
    have : ∀ l : List Value, PV.embs E (l.map .raw) = l := by
      intro l
      induction l with
      | nil => rfl
      | cons v r ih => simp [PV.embs, PV.emb, ih]
    simp [PV.ofV, PV.emb, this]
  | tuple cs =>
    have : ∀ l : List Value, PV.embs E (l.map .raw) = l := by
      intro l
      induction l with
      | nil => rfl
      | cons v r ih => simp [PV.embs, PV.emb, ih]
    simp [PV.ofV, PV.emb, this]
  | _ => rfl
theorem raws_names : ∀ l : List Value, PV.namess (l.map .raw) = []
  | [] => rfl
  | v :: r => by simp [PV.namess, PV.names, raws_names r]
theorem ofV_names (v : Value) : (PV.ofV v).names = [] := by
  cases v <;> simp [PV.ofV, PV.names, raws_names]
theorem Rel.op1 {E : Env} {s : St} {a : Act} {w : World} (h : Rel tid I B w0 nt E0 m0 E s a w) {x : Operand} {v : PV} (hx : opnd s x = some v) : a.eval x = v.emb E := by
  cases x with
  | tmp t => exact h.tmps t v hx
  | const c => simp only [opnd, Option.some.injEq] at hx; subst hx; exact (ofV_emb E c).symm
  | func f => simp only [opnd, Option.some.injEq] at hx; subst hx; rfl
  | global g => simp [opnd] at hx
theorem Rel.opl {E : Env} {s : St} {a : Act} {w : World} (h : Rel tid I B w0 nt E0 m0 E s a w) : ∀ {l : List Operand} {vs : List PV}, opnds s l = some vs → l.map a.eval = vs.map (PV.emb E) ∧ ∀ v ∈ vs, ∀ n ∈ v.names, (s.mem n).isSome = true
  | [], vs, hv => by simp only [opnds, Option.some.injEq] at hv; subst hv; simp
  | x :: r, vs, hv => by
    simp only [opnds] at hv
    split at hv
    · rename_i v vs' hx hr
      simp only [Option.some.injEq] at hv
      subst hv
      obtain ⟨i1, i2⟩ := Rel.opl h hr
      refine ⟨by simp [h.op1 hx, i1], fun u hu n hn => ?_⟩
      rcases List.mem_cons.1 hu with rfl | hu
      · cases x with
        | tmp t => exact h.tok t u hx n hn
        | const c => simp only [opnd, Option.some.injEq] at hx; subst hx; rw [ofV_names] at hn; cases hn
        | func f => simp only [opnd, Option.some.injEq] at hx; subst hx; simp [PV.names, PV.namess] at hn
        | global g => simp [opnd] at hx
      · exact i2 u hu n hn
    · cases hv
theorem yielded_is {E : Env} {s : St} {a : Act} {w : World} (h : Rel tid I B w0 nt E0 m0 E s a w) {j t : Nat} {b : Bool} (ht : (ops[j]?).bind (·.dst) = some t) (hs : s.tmps t = some (.raw (.bool b))) : yielded ops a.tmps j = some b := by
  have h1 := h.tmps t _ hs
  have h2 := h.lt t _ hs
  rw [← h.size] at h2
  unfold yielded
  rw [ht]
  simp only [Option.bind_some]
  rw [Array.getD_eq_getD_getElem?, Array.getElem?_eq_getElem h2, Option.getD_some] at h1
  rw [Array.getElem?_eq_getElem h2, h1]
  rfl
theorem yielded_none {E : Env} {s : St} {a : Act} {w : World} (h : Rel tid I B w0 nt E0 m0 E s a w) {j t : Nat} {cs : Array Value} (ht : (ops[j]?).bind (·.dst) = some t) (hs : s.tmps t = some (.raw (.tuple cs))) : yielded ops a.tmps j = none := by
  have h1 := h.tmps t _ hs
  have h2 := h.lt t _ hs
  rw [← h.size] at h2
  unfold yielded
  rw [ht]
  simp only [Option.bind_some]
  rw [Array.getD_eq_getD_getElem?, Array.getElem?_eq_getElem h2, Option.getD_some] at h1
  rw [Array.getElem?_eq_getElem h2, h1]
  rfl
theorem Guard.wanted {E : Env} {s : St} {a : Act} {w : World} (h : Rel tid I B w0 nt E0 m0 E s a w) {o : Oper} {b : Bool} (g : Guard ops o s b) : Region.wanted o (yielded ops a.tmps) = b := by
  unfold Guard at g
  unfold Region.wanted
  cases hg : o.guard with
  | none => rw [hg] at g; exact g.symm
  | some p =>
    obtain ⟨j, want⟩ := p
    rw [hg] at g
    obtain ⟨t, h1, h2⟩ := g
    simp only
    rcases h2 with h2 | ⟨rfl, cs, h2⟩
    · rw [yielded_is h h1 h2]
      cases b <;> cases want <;> rfl
    · rw [yielded_none h h1 h2]
      cases want <;> rfl
theorem execs (hD : DoerOk P tid I D) : Execs P D nt ops Q fun s a w => ∃ E, Rel tid I B w0 nt E0 m0 E s a w := by
  intro i o s out c a w K ho hst hR hK
  obtain ⟨E, hR⟩ := hR
  unfold wpOp
  simp only [ho]
  cases hst with
  | did g vals hv hr hk hc =>
    rw [if_pos (g.wanted hR)]
    obtain ⟨v1, v2⟩ := hR.opl hv
    have hk' := okOut_iff.1 hk
    refine .inl (hD B o vals s.mem out E a w K Q v1 v2 hR.mem (Nat.le_trans hR.base hR.below.size) hR.inv hr ?_ (fun u hu => (hk'.2.2.2 u hu).1) ?_ ?_ (fun E' w' hA hM hB hF => hK _ _ ⟨E', hR.app hk hA hM hB hF⟩))
    · intro b hb
      obtain ⟨u, hu, rfl⟩ := List.mem_map.1 hb
      exact (hk'.2.1.1 u hu).1
    · intro n hn
      rcases List.mem_append.1 hn with hn | hn
      · exact hk'.2.2.1 n hn
      · obtain ⟨u, hu, hn⟩ := List.mem_flatMap.1 hn
        rcases List.mem_append.1 hu with hu | hu
        · exact (hk'.2.1.1 u hu).2 n hn
        · exact (hk'.2.2.2 u hu).2.2 n hn
    · exact hk'.2.1.2
  | skipped g ho' hk hc =>
    rw [g.wanted hR]
    subst ho'
    simp only [Bool.false_eq_true, if_false]
    refine hK _ _ ⟨E, hR.app hk (.refl _ _) ?_ (.refl _ _) (.refl _ _ _)⟩
    exact hR.mem
end
end Go.Proofs.YtpbklojdmkpkcaaDoor
