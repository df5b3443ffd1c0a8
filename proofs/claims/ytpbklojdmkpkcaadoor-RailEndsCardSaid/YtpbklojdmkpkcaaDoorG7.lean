import Derived.Deep.LoopGhost
import Derived.Test.YtpbklojdmkpkcaaDoorG6
/- The evaluator: all operations. -/
namespace Go.Proofs.YtpbklojdmkpkcaaDoor
open Go Go.RowKit
set_option linter.unusedVariables false
set_option linter.unusedSimpArgs false

/-- A function with a body that is called is entered. -/
def Enters (P : Program) (f : FuncId) : Prop := ∀ args w, (callFunc f args).run P w = .ok (.enter f args) w
/-- What is told of a call is so. -/
def CallOk (P : Program) (tid : ET → TypeId) (I : WInv) (f : FuncId) (M : Nat → List PV → (Nat → Option Blk) → Tr Out) : Prop := Enters P f ∧
  ∀ (nb B : Nat) (args : List PV) (m : Nat → Option Blk) (R : List Nat) (out : Out) (E : Env) (w : World), (∀ v ∈ args, ∀ n ∈ v.names, (m n).isSome = true) → MemRel tid B E m w → B ≤ w.heap.size → I.p B w →
    (M nb args (restr m R)).run = some out → (∀ b ∈ out.news.map (·.1), m b = none) → (∀ u ∈ out.ups, (m u.1).isSome = true) → (∀ n ∈ out.put.names ++ (out.news ++ out.ups).flatMap (·.2.names), (m n).isSome = true ∨ n ∈ out.news.map (·.1)) →
    (out.news.map (·.1)).Nodup →
    Calls P f (args.map (PV.emb E)).toArray w fun e w' => ∃ E', e = .returned (out.put.emb E') ∧ Agree E E' m ∧ MemRel tid B E' (upds m (out.news ++ out.ups)) w' ∧ Below B w w' ∧ Fr m E w (upds m (out.news ++ out.ups)) E' w'
structure OrcOk (P : Program) (tid : ET → TypeId) (I : WInv) (O : Orc) : Prop where
  et : ∀ t e, O.et t = some e → tid e = t
  call : ∀ f M, O.call f = some M → CallOk P tid I f M
  ext : ∀ f M, O.ext f = some M → ∀ (args : List PV) (v : PV) (E : Env) (w : World), (M args).run = some v → (callFunc f (args.map (PV.emb E)).toArray).run P w = .ok (.value (v.emb E)) w

section
variable {P : Program} {tid : ET → TypeId} {B : Nat} {E E' : Env} {m : Nat → Option Blk} {w w' : World} {o : Oper} {a : Act} {K : Act → World → Prop} {Q : Exit → Act → World → Prop} {vals : List PV} {out : Out}
theorem one1_run {k : PV → Tr Out} (h : (one1 vals k).run = some out) : ∃ v, vals = [v] ∧ (k v).run = some out := by
  match vals, h with
  | [v], h => exact ⟨v, rfl, h⟩
theorem two2_run {k : PV → PV → Tr Out} (h : (two2 vals k).run = some out) : ∃ v u, vals = [v, u] ∧ (k v u).run = some out := by
  match vals, h with
  | [v, u], h => exact ⟨v, u, rfl, h⟩
theorem wp_val {v : Value} (h : (execOp a.eval o).run P w = .ok (.value v) w') (hK : K (a.put o.dst v) w') : o.wp P a w K Q := by unfold Oper.wp; rw [h]; exact hK
theorem fieldAddr_run {t : TypeId} {i : Nat} {v u : PV} (h : (coreFieldAddr P t i v).run = some u) : (Instr.fieldAt t (v.emb E) i).run P w = .ok (u.emb E) w := by
  unfold coreFieldAddr at h
  split at h
  · rename_i b sz j off f hf
    split at h
    · rename_i ti hti
      cases hz : Nat.beq ti.size 0 <;> rw [hz] at h
      · simp only [cond_false, run_ret, Option.some.injEq] at h
        subst h
        have hz' : ti.size ≠ 0 := fun e => by rw [e] at hz; cases hz
        unfold fieldOf at hf
        split at hf
        · rename_i fs hu
          simp only [Instr.fieldAt, Sem.run_bind, run_underlying hu, Result.andThen_ok, hf, PV.emb, Instr.sureAddr, Sem.run_pure, fieldPlace, sizeOf, typeInfo, run_program, hti, if_neg hz', addr_add]
          rw [show j * sz + (off + f.offset) = j * sz + off + f.offset from by omega, Nat.add_assoc]
        · cases hf
      · cases h
    · cases h
  · cases h
theorem field_run {t : TypeId} {i : Nat} {v u : PV} (h : (coreField P t i v).run = some u) : (Instr.field t (v.emb E) i).run P w = .ok (u.emb E) w := by
  unfold coreField at h
  split at h
  · rename_i l f hf
    rw [run_optT] at h
    unfold fieldOf at hf
    split at hf
    · rename_i fs hu
      simp only [Instr.field, Sem.run_bind, run_underlying hu, Result.andThen_ok, hf, PV.emb, asAgg, Sem.run_pure, partPV_part h]
    · cases hf
  · cases h
theorem extract_run {i : Nat} {v u : PV} (h : (coreExtract i v).run = some u) : (Instr.extract (v.emb E) i).run P w = .ok (u.emb E) w := by
  unfold coreExtract at h
  split at h
  · rename_i l
    rw [run_optT] at h
    have : (PV.embs E l).toArray[i]? = some (u.emb E) := by rw [List.getElem?_toArray, embs_get, h]; rfl
    simp [Instr.extract, PV.emb, this]
  · cases h
theorem un_run {op : UnOp} {v u : PV} (h : (coreUn P op v).run = some u) : (Op.unary op (v.emb E)).run P w = .ok (u.emb E) w := by
  unfold coreUn at h
  split at h
  · split at h
    · rename_i x hx
      simp only [run_ret, Option.some.injEq] at h
      subst h
      exact pureRun_run hx
    · cases h
  · cases h
theorem convert_run {s d : TypeId} {v u : PV} (h : (coreConvert P s d v).run = some u) : (convert s d (v.emb E)).run P w = .ok (u.emb E) w := by
  unfold coreConvert at h
  split at h
  · split at h
    · rename_i x hx
      simp only [run_ret, Option.some.injEq] at h
      subst h
      exact pureRun_run hx
    · cases h
  · cases h
theorem eqFs_run {eq : TypeId → PV → PV → Option Bool} {D : Nat} (he : ∀ t x y r, eq t x y = some r → (Op.equalIn D t (x.emb E) (y.emb E)).run P w = .ok r w) {xs ys : List PV} : ∀ (fs : List Field) (r : Bool), eqFs P eq xs ys fs = some r →
    (Op.eqFields D (PV.embs E xs).toArray (PV.embs E ys).toArray fs).run P w = .ok r w
  | [], r, h => by simp only [eqFs, Option.some.injEq] at h; subst h; simp [Op.eqFields]
  | f :: fs, r, h => by
    unfold eqFs at h
    cases hn : (f.name == "_") <;> rw [hn] at h
    · simp only [cond_false] at h
      split at h
      · rename_i a b ha hb
        split at h
        · rename_i r1 s1 h1 h2
          simp only [Option.some.injEq] at h
          subst h
          have hn' : f.name ≠ "_" := by simpa using hn
          have ih := eqFs_run he fs s1 h2
          simp only [Op.eqFields, if_pos hn', Sem.run_bind, partPV_part ha, partPV_part hb, he _ _ _ _ h1, Result.andThen_ok]
          cases r1
          · simp
          · simpa using ih
        · cases h
      · cases h
    · cases h
theorem eqB_run : ∀ (n : Nat) {t : TypeId} {x y : PV} {r : Bool}, eqB P n t x y = some r → ∀ d, (Op.equalIn (d + n) t (x.emb E) (y.emb E)).run P w = .ok r w
  | 0, t, x, y, r, h, d => by simp [eqB] at h
  | n + 1, t, x, y, r, h, d => by
    unfold eqB at h
    split at h
    · rename_i hu
      simp only [Option.some.injEq] at h
      subst h
      show (Op.equalIn (d + n + 1) t _ _).run P w = _
      simp [Op.equalIn, PV.emb, run_underlying hu]
    · rename_i k1 k a k' b hu
      split at h
      · rename_i hk
        subst hk
        simp only [Option.some.injEq] at h
        subst h
        show (Op.equalIn (d + n + 1) t _ _).run P w = _
        simp [Op.equalIn, PV.emb, run_underlying hu]
      · cases h
    · rename_i fs xs ys hu
      cases hs : P.stoodInHeld t <;> rw [hs] at h
      · simp only [cond_false] at h
        have hf : P.fieldsOf t = fs := by simp [Program.fieldsOf, hu]
        show (Op.equalIn (d + n + 1) t _ _).run P w = _
        simp only [PV.emb]
        rw [run_equalIn_struct (P := P) w (d + n) t _ _ (by rw [hf]; exact hu) hs, hf]
        exact eqFs_run (fun t x y r hr => eqB_run n hr d) _ _ h
      · cases h
    · cases h
theorem ints_run {op : BinOp} {k : IntKind} {x y : Int} {u : PV} {t : TypeId} {ox oy : Operand} (hs : op ≠ .shl) (hs' : op ≠ .shr) (h : (coreInts P op k x y).run = some u) :
    ((do eqGuard op t ox oy (.int k x) (.int k y); binOp op t (.int k x) (.int k y)) : Sem Value).run P w = .ok (u.emb E) w := by
  have hg : eqGuard op t ox oy (.int k x) (.int k y) = pure () := by cases op <;> rfl
  rw [hg]
  cases op <;> simp only [coreInts, run_ret, run_bad, Option.some.injEq] at h <;> first
    | (obtain ⟨hy, h⟩ := run_chk h
       simp only [bne_iff_ne] at hy
       simp only [run_ret, Option.some.injEq] at h
       subst h
       simp [binOp, Op.intDiv, hy, PV.emb])
    | (subst h; simp [binOp, Op.intArith, Op.intBits, Op.intCmp, PV.emb])
    | (exact absurd rfl hs)
    | (exact absurd rfl hs')
    | (cases h)
theorem coreEq_run {op : BinOp} {t : TypeId} {x y u : PV} {ox oy : Operand} (he : P.eqGuardType P.depth t = false → ∀ op', (op' = BinOp.eql ∨ op' = BinOp.neq) → (eqGuard op' t ox oy (x.emb E) (y.emb E)).run P w = .ok () w)
    (hb : ∀ op', (op' = BinOp.eql ∨ op' = BinOp.neq) → binOp op' t (x.emb E) (y.emb E) = ((Op.equal t (x.emb E) (y.emb E) >>= fun r => pure (.bool (match op' with | .eql => r | _ => !r))) : Sem Value)) (h : (coreEq P op t x y).run = some u) :
    ((do eqGuard op t ox oy (x.emb E) (y.emb E); binOp op t (x.emb E) (y.emb E)) : Sem Value).run P w = .ok (u.emb E) w := by
  unfold coreEq at h
  cases hg : P.eqGuardType P.depth t <;> rw [hg] at h
  · simp only [cond_false] at h
    split at h
    · rename_i r hr
      simp only [run_ret, Option.some.injEq] at h
      subst h
      have := eqB_run (E := E) (w := w) 8 hr 9992
      simp only [Sem.run_bind, he hg _ (.inl rfl), Result.andThen_ok, hb _ (.inl rfl)]
      simp only [Op.equal, Op.maxDepth, Sem.run_bind, this, Result.andThen_ok, Sem.run_pure]
      rfl
    · rename_i r hr
      simp only [run_ret, Option.some.injEq] at h
      subst h
      have := eqB_run (E := E) (w := w) 8 hr 9992
      simp only [Sem.run_bind, he hg _ (.inr rfl), Result.andThen_ok, hb _ (.inr rfl)]
      simp only [Op.equal, Op.maxDepth, Sem.run_bind, this, Result.andThen_ok, Sem.run_pure]
      rfl
    · cases h
  · cases h
theorem bin_run {op : BinOp} {t : TypeId} {x y u : PV} {ox oy : Operand} (h : (coreBin P op t x y).run = some u) :
    ((do eqGuard op t ox oy (x.emb E) (y.emb E); binOp op t (x.emb E) (y.emb E)) : Sem Value).run P w = .ok (u.emb E) w := by
  unfold coreBin at h
  split at h
  · rename_i k x k' y
    split at h
    · obtain ⟨hy, h⟩ := run_chk h
      rw [decide_eq_true_iff] at hy
      simp only [run_ret, Option.some.injEq] at h
      subst h
      have hg : eqGuard .shl t ox oy (.int k x) (.int k' y) = pure () := rfl
      simp only [PV.emb, hg]
      simp [binOp, Op.shift, Int.not_lt.2 hy]
    · obtain ⟨hy, h⟩ := run_chk h
      rw [decide_eq_true_iff] at hy
      simp only [run_ret, Option.some.injEq] at h
      subst h
      have hg : eqGuard .shr t ox oy (.int k x) (.int k' y) = pure () := rfl
      simp only [PV.emb, hg]
      simp [binOp, Op.shift, Int.not_lt.2 hy]
    · rename_i hs1 hs2
      split at h
      · rename_i hk
        subst hk
        exact ints_run (fun e => hs1 e) (fun e => hs2 e) h
      · cases h
  · rename_i a b
    refine coreEq_run (fun _ op' ho => ?_) (fun op' ho => ?_) h
    · rcases ho with rfl | rfl <;> rfl
    · rcases ho with rfl | rfl <;> rfl
  · rename_i xs ys
    refine coreEq_run (fun hg op' ho => ?_) (fun op' ho => ?_) h
    · rcases ho with rfl | rfl <;> simp [eqGuard, PV.emb, hg]
    · rcases ho with rfl | rfl <;> rfl
  · rename_i b sz
    have he : ∃ a l c, (PV.sl b sz).emb E = .slice a l c ∧ a.isNone = (E.at_ b).isNone := by
      simp only [PV.emb]
      cases hk : E.at_ b with
      | none => exact ⟨none, 0, 0, rfl, rfl⟩
      | some q => exact ⟨_, _, _, rfl, rfl⟩
    obtain ⟨a, l, c, he, hn⟩ := he
    split at h
    · rename_i e hu
      simp only [run_ret, Option.some.injEq] at h
      subst h
      rw [he]
      have hg : eqGuard .eql t ox oy (.slice a l c) (.slice none 0 0) = pure () := rfl
      have e2 : PV.emb E (.raw (.slice none 0 0)) = .slice none 0 0 := rfl
      simp only [e2, hg, Sem.run_bind, Sem.run_pure, Result.andThen_ok, Go.run_eql_slice_nil w t e a l c hu, PV.emb, hn]
      cases (E.at_ b).isNone <;> rfl
    · rename_i e hu
      simp only [run_ret, Option.some.injEq] at h
      subst h
      rw [he]
      have hg : eqGuard .neq t ox oy (.slice a l c) (.slice none 0 0) = pure () := rfl
      have e2 : PV.emb E (.raw (.slice none 0 0)) = .slice none 0 0 := rfl
      simp only [e2, hg, Sem.run_bind, Sem.run_pure, Result.andThen_ok, Go.run_neq_slice_nil w t e a l c hu, PV.emb, hn]
      cases (E.at_ b).isNone <;> rfl
    · cases h
  · cases h
theorem pick_run {u : PV} {c x y : Operand} (hv : [c, x, y].map a.eval = vals.map (PV.emb E)) (h : (corePick vals).run = some u) : ((do pure (Next.value (if ← asBool (a.eval c) then a.eval x else a.eval y))) : Sem Next).run P w = .ok (.value (u.emb E)) w := by
  unfold corePick at h
  split at h
  · rename_i b1 b2 b3
    simp only [run_ret, Option.some.injEq] at h
    subst h
    simp only [List.map_cons, List.map_nil, List.cons.injEq, and_true] at hv
    obtain ⟨h1, h2, h3⟩ := hv
    rw [h1, h2, h3]
    cases b1 <;> simp [asBool, PV.emb]
  · rename_i b1 x y hn
    simp only [List.map_cons, List.map_nil, List.cons.injEq, and_true] at hv
    obtain ⟨h1, h2, h3⟩ := hv
    rw [h1, h2, h3]
    cases b1 <;> simp only [cond_true, cond_false, run_ret, Option.some.injEq] at h <;> subst h <;> simp [asBool, PV.emb]
  · cases h
theorem indexAddr_run {t : TypeId} {R : List Nat} {v u r : PV} (hM : MemRel tid B E m w) (h : (coreIndexAddr P t (restr m R) v u).run = some r) : (Instr.indexAt t (v.emb E) (u.emb E)).run P w = .ok (r.emb E) w := by
  unfold coreIndexAddr at h
  split at h
  · rename_i b sz k i e hu
    split at h
    · rename_i own et l ei hb hei
      cases hz : (Nat.beq ei.size sz && Nat.beq sz et.size) <;> rw [hz] at h
      · cases h
      · rw [Bool.and_eq_true] at hz
        have h1 : ei.size = sz := Nat.beq_eq ▸ hz.1
        simp only [cond_true] at h
        obtain ⟨hi, h⟩ := run_chk h
        rw [Bool.and_eq_true, decide_eq_true_iff, decide_eq_true_iff] at hi
        simp only [run_ret, Option.some.injEq] at h
        subst h
        have hrow : RowOk tid B E w b own et l := hM.blk b _ (restr_sub hb)
        unfold RowOk at hrow
        split at hrow
        · subst hrow; simp at hi; omega
        · rename_i kk f hk
          have hlen := hrow.1
          simp only [Instr.indexAt, PV.emb, hk, Sem.run_bind, run_underlying hu, Result.andThen_ok, asIntOf, Sem.run_pure, Sem.run_ite, Option.getD_some]
          rw [if_pos (by rw [← hlen]; exact hi)]
          simp only [sizeOf, typeInfo, Sem.run_bind, run_program, Result.andThen_ok, hei, Sem.run_pure, addr_add, h1, Nat.add_zero]
    · cases h
  · rename_i b sz j off k i n e hu
    split at h
    · rename_i ei hei
      cases hz : (Nat.beq sz 0 && !Nat.beq ei.size 0) <;> rw [hz] at h
      · cases h
      · rw [Bool.and_eq_true] at hz
        have h1 : sz = 0 := Nat.beq_eq ▸ hz.1
        subst h1
        simp only [cond_true] at h
        obtain ⟨hi, h⟩ := run_chk h
        rw [Bool.and_eq_true, decide_eq_true_iff, decide_eq_true_iff] at hi
        simp only [run_ret, Option.some.injEq] at h
        subst h
        simp only [Instr.indexAt, PV.emb, Sem.run_bind, run_underlying hu, Result.andThen_ok, asIntOf, Sem.run_pure, Instr.sureAddr]
        rw [if_pos hi]
        simp only [sizeOf, typeInfo, Sem.run_bind, run_program, Result.andThen_ok, hei, Sem.run_pure, addr_add, Nat.mul_zero, Nat.zero_add]
        rw [show ((E.at_ b).getD (0, 0)).snd + off + i.toNat * ei.size = ((E.at_ b).getD (0, 0)).snd + (i.toNat * ei.size + off) from by omega]
    · cases h
  · cases h
theorem index_run {t : TypeId} {v u r : PV} (h : (coreIndex P t v u).run = some r) : (Instr.index t (v.emb E) (u.emb E)).run P w = .ok (r.emb E) w := by
  unfold coreIndex at h
  split at h
  · rename_i l k i n e hu
    split at h
    · rename_i ei hei
      obtain ⟨hi, h⟩ := run_chk h
      rw [Bool.and_eq_true, decide_eq_true_iff, decide_eq_true_iff] at hi
      have := partPV_part (E := E) (w := w) (arrPV_run h)
      simp only [Instr.index, PV.emb, Sem.run_bind, run_underlying hu, Result.andThen_ok, asIntOf, Sem.run_pure]
      rw [if_pos hi]
      simp only [sizeOf, typeInfo, Sem.run_bind, run_program, Result.andThen_ok, hei, Sem.run_pure]
      exact this
    · cases h
  · cases h
theorem builtin_run {b : Builtin} {ts : Array TypeId} {ty : TypeId} {cs : Array Bool} {R : List Nat} {u : PV} (hM : MemRel tid B E m w) (h : (coreBuiltin P b ts vals (restr m R)).run = some u) :
    (builtin b ts ty cs (vals.map (PV.emb E)).toArray).run P w = .ok (.value (u.emb E)) w := by
  unfold coreBuiltin at h
  split at h
  · split at h
    · rename_i b sz e hu
      split at h
      · rename_i own et l hb
        simp only [run_ret, Option.some.injEq] at h
        subst h
        obtain ⟨t, ht, hu⟩ := Option.bind_eq_some_iff.1 hu
        have hrow : RowOk tid B E w b own et l := hM.blk b _ (restr_sub hb)
        unfold RowOk at hrow
        split at hrow
        · rename_i hk
          subst hrow
          simp [builtin, Builtin.len_, ht, PV.emb, hk, run_underlying hu, goInt]
        · rename_i kk f hk
          have hlen := hrow.1
          simp [builtin, Builtin.len_, ht, PV.emb, hk, run_underlying hu, goInt, hlen]
      · cases h
    · rename_i e hu
      simp only [run_ret, Option.some.injEq] at h
      subst h
      obtain ⟨t, ht, hu⟩ := Option.bind_eq_some_iff.1 hu
      simp [builtin, Builtin.len_, ht, PV.emb, run_underlying hu, goInt]
    · cases h
  · split at h
    · simp only [run_ret, Option.some.injEq] at h
      subst h
      simp [builtin, Builtin.max_, PV.emb, Builtin.max2]
    · cases h
  · split at h
    · simp only [run_ret, Option.some.injEq] at h
      subst h
      simp [builtin, Builtin.min_, PV.emb, Builtin.min2]
    · cases h
  · cases h
theorem call_run {g : FuncId} {c : Call} {ty : TypeId} {caps args : Array Value} {f : Operand} (hc : c.callee = .value f) (hf : a.eval f = .func (.func g) #[] caps) (ha : c.args.map a.eval = args) :
    ((do let d ← resolve a.eval c ty; invoke d.target d.args) : Sem Next).run P w = (callFunc g (args ++ caps)).run P w := by
  unfold resolve
  rw [hc]
  simp only [hf, ha, Deferred.ofValue, Sem.run_bind, Sem.run_pure, Result.andThen_ok, invoke, Array.empty_append]
theorem placesOf_run : ∀ {fs : List Field} {pl : List (Nat × Nat)}, placesOf P fs = some pl → (fs.mapM fun f => do pure (f.offset, ← sizeOf f.type) : Sem (List (Nat × Nat))).run P w = .ok pl w
  | [], pl, h => by simp only [placesOf, Option.some.injEq] at h; subst h; rfl
  | f :: r, pl, h => by
    unfold placesOf at h
    split at h
    · rename_i i l hi hl
      simp only [Option.some.injEq] at h
      subst h
      have ih := placesOf_run hl
      rw [List.mapM_cons]
      simp only [Sem.run_bind, sizeOf, typeInfo, run_program, Result.andThen_ok, hi, Sem.run_pure]
      simp only [sizeOf, typeInfo] at ih
      rw [ih]; rfl
    · cases h
theorem fill_run {pl : List (Nat × Nat)} : ∀ {parts : List (Nat × PV)} {cs r : List PV}, fillPV pl parts cs = some r → Instr.fill (pl.toArray[·]?) (PV.embs E cs).toArray (parts.map fun (i, v) => (i, v.emb E)) = some (PV.embs E r).toArray
  | [], cs, r, h => by simp only [fillPV, Option.some.injEq] at h; subst h; rfl
  | (i, v) :: ps, cs, r, h => by
    unfold fillPV at h
    split at h
    · rename_i off n vs hp hf
      cases hb : (Nat.beq vs.length n && Nat.ble (off + n) cs.length) <;> rw [hb] at h
      · cases h
      · rw [Bool.and_eq_true, Nat.ble_eq] at hb
        have hl : vs.length = n := Nat.beq_eq ▸ hb.1
        simp only [cond_true] at h
        obtain ⟨f1, _⟩ := flat_emb (E := E) hf
        have ih := fill_run h
        have hsz : (PV.embs E vs).length = n := by rw [embs_length, hl]
        simp only [List.map_cons, Instr.fill]
        rw [List.getElem?_toArray, hp]
        simp only [f1, List.size_toArray, hsz, ne_eq, not_true, decide_false, Bool.false_or, embs_length]
        rw [if_neg (by simp; omega)]
        rw [← ih]
        congr 1
        -- cells laid one by one
        have lay : ∀ (us : List Value) (k : Nat) (A : List Value), off + k + us.length ≤ A.length →
            (us.zipIdx k).foldl (fun cs (c, j) => cs.setIfInBounds (off + j) c) A.toArray = (A.take (off + k) ++ us ++ A.drop (off + k + us.length)).toArray := by
          intro us
          induction us with
          | nil => intro k A hA; simp
          | cons u us ih =>
            intro k A hA
            simp only [List.length_cons] at hA
            simp only [List.zipIdx_cons, List.foldl_cons, List.setIfInBounds_toArray]
            rw [ih (k + 1) (A.set (off + k) u) (by simp; omega)]
            congr 1
            have e1 : (A.set (off + k) u).take (off + (k + 1)) = A.take (off + k) ++ [u] := by
              rw [show off + (k + 1) = off + k + 1 from by omega, List.take_succ_eq_append_getElem (by simp; omega), List.take_set_of_le (by omega)]
              simp
            have e2 : (A.set (off + k) u).drop (off + (k + 1) + us.length) = A.drop (off + k + (u :: us).length) := by
              rw [List.drop_set_of_lt (by omega)]; congr 1; simp; omega
            rw [e1, e2]; simp
        have e0 : (PV.embs E vs).toArray.zipIdx.foldl (fun cs (c, j) => cs.setIfInBounds (off + j) c) (PV.embs E cs).toArray = ((PV.embs E vs).zipIdx 0).foldl (fun cs (c, j) => cs.setIfInBounds (off + j) c) (PV.embs E cs).toArray := by
          rw [← Array.foldl_toList, Array.toList_zipIdx]
        have := lay (PV.embs E vs) 0 (PV.embs E cs) (by rw [embs_length, embs_length]; omega)
        refine (e0.trans this).trans ?_
        rw [patch_embs]
        simp [embs_length, hl]
    · cases h
theorem build_run {t : TypeId} {parts : List (Nat × PV)} {u : PV} (h : coreBuild P t parts = some u) : (Instr.build t (parts.map fun (i, v) => (i, v.emb E)).toArray).run P w = .ok (u.emb E) w := by
  unfold coreBuild at h
  split at h
  · rename_i fs z hu hz
    split at h
    · rename_i pl hpl
      obtain ⟨r, hr, rfl⟩ := Option.map_eq_some_iff.1 h
      obtain ⟨i, hi, hz⟩ := Option.bind_eq_some_iff.1 hz
      have h1 := placesOf_run (w := w) hpl
      have h2 := fill_run (E := E) hr
      rw [raws_emb] at h2
      have h3 : (zeroValue t).run P w = .ok z w := by simp [zeroValue, typeInfo, hi, hz]
      simp only [Instr.build, Sem.run_bind, h3, Result.andThen_ok, run_underlying hu]
      rw [← Array.toArray_toList (xs := fs)] 
      rw [List.mapM_toArray]
      simp only [Sem.run_map, h1, Result.andThen_ok]
      simp only [Array.toArray_toList] at h2
      rw [h2]
      simp [PV.emb]
    · cases h
  · cases h
end
theorem upds_nil {α : Type} (m : Nat → Option α) : upds m [] = m := rfl
theorem core_ok' {P : Program} {tid : ET → TypeId} {I : WInv} {O : Orc} (hO : OrcOk P tid I O) (nb : Nat) : DoerOk P tid I { foot := footOf, core := core P O nb, fuel := O.fuel, hint := O.hint } := by
  intro B o vals m out E a w K Q hv hn hM hB hI hrun hf hups hnm hnd hK
  have hrun : (core P O nb o vals (restr m (footOf o vals m))).run = some out := hrun
  -- what only yields a value
  have value : ∀ v : PV, out = { put := v } → (execOp a.eval o).run P w = .ok (.value (v.emb E)) w → o.wp P a w K Q := by
    intro v hout he
    subst hout
    exact wp_val he (hK E w (.refl _ _) hM (.refl _ _) (.refl _ _ _))
  have value1 : ∀ (t : Tr PV), (t.bind putT).run = some out → (∀ u, t.run = some u → (execOp a.eval o).run P w = .ok (.value (u.emb E)) w) → o.wp P a w K Q := by
    intro t ht h
    obtain ⟨u, hu, hout⟩ := bind_putT ht
    exact value u hout (h u hu)
  -- a block of its own
  have fresh : ∀ (b : Nat) (t : TypeId) (cs : List PV), out = { put := .ptr b 0 0 0, news := [(b, .cells cs t)] } → (∀ n ∈ PV.namess cs, (m n).isSome = true) →
      (execOp a.eval o).run P w = .ok (.value (.pointer (some ⟨w.heap.size, 0, none⟩))) { w with heap := w.heap.push (.cells (PV.embs E cs).toArray t) } → o.wp P a w K Q := by
    intro b t cs hout hcn he
    subst hout
    have hmb : m b = none := hf b (by simp)
    let E' : Env := { E with at_ := fun n => if n = b then some (w.heap.size, 0) else E.at_ n }
    have hA : Agree E E' m := by
      intro n hn
      have : n ≠ b := fun e => by subst e; rw [hmb] at hn; cases hn
      exact ⟨by simp [E', this], rfl, rfl⟩
    have hcs : PV.embs E' cs = PV.embs E cs := PV.embs_congr cs fun n hn => hA n (hcn n hn)
    have hb' : E'.at_ b = some (w.heap.size, 0) := by simp [E']
    have hpush : ∀ i, i < w.heap.size → (w.heap.push (Obj.cells (PV.embs E cs).toArray t))[i]? = w.heap[i]? := fun i hi => by rw [Array.getElem?_push, if_neg (by omega)]
    have hM' := hM.more (E' := E') (w' := { w with heap := w.heap.push (.cells (PV.embs E cs).toArray t) }) hB hA hpush [(b, .cells cs t)] (fun c hc => hf c hc) (fun u hu n hn => hnm n (by simp at hu; subst hu; simp [hn])) (by simp) ?_ ?_
    · have hbel : Below B w { w with heap := w.heap.push (.cells (PV.embs E cs).toArray t) } := ⟨rfl, rfl, rfl, by simp, fun i hi => hpush i (by omega)⟩
      have := hK E' _ hA hM' hbel (Fr.more hA hpush [(b, .cells cs t)] fun u hu _ i f hi => by simp at hu; subst hu; rw [hb'] at hi; cases hi; exact Nat.le_refl _)
      refine wp_val he ?_
      simpa [PV.emb, hb'] using this
    · intro u hu
      simp at hu
      subst hu
      refine ⟨⟨w.heap.size, hb', hB, ?_⟩, fun _ i f hi => ?_⟩
      · rw [hcs]; simp
      · rw [hb'] at hi; cases hi; exact Nat.le_refl _
    · intro u hu v hv' hne
      simp at hu hv'
      subst hu; subst hv'
      exact absurd rfl hne
  unfold core at hrun
  have hexec : execOp a.eval o = execOp a.eval { o with op := o.op } := rfl
  split at hrun
  · rename_i x ho
    obtain ⟨v, rfl, h⟩ := one1_run hrun
    simp only [run_putT, Option.some.injEq] at h
    refine value v h.symm ?_
    rw [ho] at hv
    simp [Op.operands] at hv
    simp [execOp, ho, hv]
  · rename_i x ho
    obtain ⟨v, rfl, h⟩ := one1_run hrun
    simp only [run_putT, Option.some.injEq] at h
    refine value v h.symm ?_
    rw [ho] at hv
    simp [Op.operands] at hv
    simp [execOp, ho, hv]
  · rename_i t ho
    unfold coreAlloc at hrun
    split at hrun
    · rename_i d z hd hz
      simp only [run_ret, Option.some.injEq] at hrun
      subst hrun
      obtain ⟨zv, hzv, rfl⟩ := Option.map_eq_some_iff.1 hz
      obtain ⟨i, hi, hzv⟩ := Option.bind_eq_some_iff.1 hzv
      refine fresh (nb + d) t (raws zv.cells.toList) rfl (fun n hn => by rw [show PV.namess (raws zv.cells.toList) = [] from raws_names _] at hn; cases hn) ?_
      rw [raws_emb]
      simp [execOp, ho, Instr.alloc, zeroValue, typeInfo, hi, hzv, newVar, newRow]
    · cases hrun
  · rename_i t x ho
    obtain ⟨v, rfl, h⟩ := one1_run hrun
    rw [ho] at hv
    simp [Op.operands] at hv
    unfold coreBox at h
    split at h
    · rename_i d cs hd hcs
      simp only [run_ret, Option.some.injEq] at h
      subst h
      refine fresh (nb + d) t cs rfl (fun n hnn => hn v (by simp) n (by rw [← flat_names hcs]; exact hnn)) ?_
      simp [execOp, ho, hv, Instr.box, newVar, newRow, (flat_emb (E := E) hcs).1]
    · cases h
  · rename_i t x ho
    obtain ⟨v, rfl, h⟩ := one1_run hrun
    rw [ho] at hv
    simp [Op.operands] at hv
    refine value1 _ h fun u hu => ?_
    simp [execOp, ho, hv, load_run hM hu]
  · rename_i t x y ho
    obtain ⟨v, u, rfl, h⟩ := two2_run hrun
    rw [ho] at hv
    simp [Op.operands] at hv
    obtain ⟨w', h1, h2, h3, h3', h4, h5⟩ := store_run hM (hn u (by simp)) h
    unfold Oper.wp
    simp only [execOp, ho, hv.1, hv.2, Sem.run_bind, h1, Result.andThen_ok, Sem.run_pure, Oper.upon]
    have := hK E w' (.refl _ _) (by rw [h4]; exact h2) h3 (by rw [h4]; exact h3')
    rw [h5] at this
    exact this
  · rename_i t x i ho
    obtain ⟨v, rfl, h⟩ := one1_run hrun
    rw [ho] at hv
    simp [Op.operands] at hv
    refine value1 _ h fun u hu => ?_
    simp [execOp, ho, hv, fieldAddr_run hu]
  · rename_i t x i ho
    obtain ⟨v, rfl, h⟩ := one1_run hrun
    rw [ho] at hv
    simp [Op.operands] at hv
    refine value1 _ h fun u hu => ?_
    simp [execOp, ho, hv, field_run hu]
  · rename_i x i ho
    obtain ⟨v, rfl, h⟩ := one1_run hrun
    rw [ho] at hv
    simp [Op.operands] at hv
    refine value1 _ h fun u hu => ?_
    simp [execOp, ho, hv, extract_run hu]
  · rename_i t ps ho
    refine value1 _ hrun fun u hu => ?_
    rw [run_optT] at hu
    rw [ho] at hv
    have hv : ps.toList.map (fun p => a.eval p.2) = vals.map (PV.emb E) := by simpa [Op.operands, Function.comp_def] using hv
    have hz : (ps.map fun (i, x) => (i, a.eval x)) = (((ps.toList.map (·.1)).zip vals).map fun (i, v) => (i, v.emb E)).toArray := by
      apply Array.toList_inj.1
      simp only [Array.toList_map]
      have : ∀ (l : List (Nat × Operand)) (vs : List PV), l.map (fun p => a.eval p.2) = vs.map (PV.emb E) → l.map (fun (i, x) => (i, a.eval x)) = ((l.map (·.1)).zip vs).map fun (i, v) => (i, v.emb E) := by
        intro l
        induction l with
        | nil => intro vs h; simp
        | cons p r ih =>
          intro vs h
          cases vs with
          | nil => simp at h
          | cons v vs =>
            simp only [List.map_cons, List.cons.injEq] at h
            simp [h.1, ih vs h.2]
      simpa using this ps.toList vals hv
    have := build_run (E := E) (w := w) hu
    simp only [execOp, ho]
    rw [hz, Sem.run_bind, this]; rfl
  · rename_i op t x ho
    obtain ⟨v, rfl, h⟩ := one1_run hrun
    rw [ho] at hv
    simp [Op.operands] at hv
    refine value1 _ h fun u hu => ?_
    simp [execOp, ho, hv, un_run hu]
  · rename_i s d x ho
    obtain ⟨v, rfl, h⟩ := one1_run hrun
    rw [ho] at hv
    simp [Op.operands] at hv
    refine value1 _ h fun u hu => ?_
    simp [execOp, ho, hv, convert_run hu]
  · rename_i op t x y t' ho
    obtain ⟨v, u, rfl, h⟩ := two2_run hrun
    rw [ho] at hv
    simp [Op.operands] at hv
    refine value1 _ h fun r hr => ?_
    have := bin_run (E := E) (w := w) (ox := x) (oy := y) hr
    simp only [execOp, ho, hv.1, hv.2]
    simp only [Sem.run_bind] at this ⊢
    rw [this]; rfl
  · rename_i c x y ho
    rw [ho] at hv
    refine value1 _ hrun fun r hr => ?_
    have := pick_run (P := P) (w := w) (c := c) (x := x) (y := y) (by simpa [Op.operands] using hv) hr
    simp only [execOp, ho]
    exact this
  · rename_i x ho
    obtain ⟨v, rfl, h⟩ := one1_run hrun
    rw [ho] at hv
    simp [Op.operands] at hv
    refine value1 _ h fun u hu => ?_
    unfold coreNil at hu
    split at hu
    · simp only [run_ret, Option.some.injEq] at hu
      subst hu
      simp [execOp, ho, hv, PV.emb]
    · simp only [run_ret, Option.some.injEq] at hu
      subst hu
      simp [execOp, ho, hv, PV.emb]
    · cases hu
  · rename_i fn first cs ho
    rw [ho] at hv
    unfold coreFunc at hrun
    split at hrun
    · rename_i f
      cases hb : first.isEmpty <;> rw [hb] at hrun
      · cases hrun
      · simp only [cond_true, run_putT, Option.some.injEq] at hrun
        have hb : first = #[] := by simpa using hb
        subst hb
        refine value _ hrun.symm ?_
        have hv : cs.map a.eval = (PV.embs E vals).toArray := by
          apply Array.toList_inj.1
          simpa [Op.operands, embs_map] using hv
        simp [execOp, ho, Instr.makeFunc, hv, PV.emb]
    · cases hrun
  · rename_i t x y ho
    obtain ⟨v, u, rfl, h⟩ := two2_run hrun
    rw [ho] at hv
    simp [Op.operands] at hv
    refine value1 _ h fun r hr => ?_
    simp [execOp, ho, hv.1, hv.2, indexAddr_run hM hr]
  · rename_i t x y ho
    obtain ⟨v, u, rfl, h⟩ := two2_run hrun
    rw [ho] at hv
    simp [Op.operands] at hv
    refine value1 _ h fun r hr => ?_
    simp [execOp, ho, hv.1, hv.2, index_run hr]
  · rename_i t n ps ho
    rw [ho] at hv
    have hv : ps.toList.map (fun p => a.eval p.2) = vals.map (PV.emb E) := by simpa [Op.operands, Function.comp_def] using hv
    obtain ⟨b, et, l, v, w', rfl, hr, hg, hown⟩ := lit_run (E := E) (w := w) hO.et hrun
    have hz : (ps.map fun (i, x) => (i, a.eval x)) = ((ps.toList.map (·.1)).zip (vals.map (PV.emb E))).toArray := by
      apply Array.toList_inj.1
      simp only [Array.toList_map]
      have : ∀ (l : List (Nat × Operand)) (vs : List Value), l.map (fun p => a.eval p.2) = vs → l.map (fun (i, x) => (i, a.eval x)) = (l.map (·.1)).zip vs := by
        intro l
        induction l with
        | nil => intro vs h; simp
        | cons p r ih =>
          intro vs h
          cases vs with
          | nil => simp at h
          | cons v vs =>
            simp only [List.map_cons, List.cons.injEq] at h
            simp [h.1, ih vs h.2]
      simpa using this ps.toList _ hv
    obtain ⟨a1, a2, a3, a4, a5⟩ := hM.made (sz := et.size) hB (hf b (by simp)) hg hown
    refine wp_val (v := v) (w' := w') ?_ ?_
    · simp only [execOp, ho]
      rw [hz, Sem.run_bind, hr]; rfl
    · have := hK _ w' a1 (by simpa using a2) a3 (by simpa using a5)
      rwa [a4] at this
  · rename_i t x y ho
    obtain ⟨v, u, rfl, h⟩ := two2_run hrun
    rw [ho] at hv
    simp [Op.operands] at hv
    obtain ⟨b, et, l, r, w', rfl, hr, hg, hown⟩ := make_run (E := E) (w := w) hO.et h
    obtain ⟨a1, a2, a3, a4, a5⟩ := hM.made (sz := et.size) hB (hf b (by simp)) hg hown
    refine wp_val (v := r) (w' := w') ?_ ?_
    · simp only [execOp, ho, hv.1, hv.2]
      rw [Sem.run_bind, hr]; rfl
    · have := hK _ w' a1 (by simpa using a2) a3 (by simpa using a5)
      rwa [a4] at this
  · rename_i c ho
    rw [ho] at hv
    obtain ⟨callee, args, ts⟩ := c
    cases callee with
    | builtin b =>
      have hva : args.map a.eval = (vals.map (PV.emb E)).toArray := by
        apply Array.toList_inj.1
        simpa [Op.operands, Call.operands] using hv
      by_cases hba : b = .append
      · subst hba
        have hrun : (two2 vals fun v u => coreAppend P O nb o.dst ts.toList v u (restr m (footOf o vals m))).run = some out := hrun
        obtain ⟨v, u, rfl, h⟩ := two2_run hrun
        obtain ⟨r, E', w', hr, e1, a1, a2, a3, a4⟩ := append_run (ty := o.type) hO.et hM hB hf h
        refine wp_val (v := r) (w' := w') ?_ ?_
        · simp only [execOp, ho, resolve, Sem.run_bind, Sem.run_pure, Result.andThen_ok, invoke, hva, builtin, List.map_cons, List.map_nil, hr]
        · rw [e1]; exact hK E' w' a1 a2 a3 a4
      have hrun : ((coreBuiltin P b ts vals (restr m (footOf o vals m))).bind putT).run = some out := by
        cases b <;> first | exact hrun | exact absurd rfl hba
      refine value1 _ hrun fun r hr => ?_
      have := builtin_run (E := E) (w := w) (ty := o.type) (cs := args.map fun | .const _ => true | _ => false) hM hr
      simp only [execOp, ho, resolve, Sem.run_bind, Sem.run_pure, Result.andThen_ok, invoke, hva]
      exact this
    | value f =>
      unfold coreAny at hrun
      simp only at hrun
      unfold coreCall at hrun
      split at hrun
      · rename_i d g caps argv hd hargv
        have hv1 : a.eval f = .func (.func g) #[] (PV.embs E caps).toArray ∧ args.map a.eval = (argv.map (PV.emb E)).toArray := by
          have hv2 : a.eval f = PV.emb E (.clo g caps) ∧ args.toList.map a.eval = argv.map (PV.emb E) := by simpa [Op.operands, Call.operands] using hv
          refine ⟨hv2.1, ?_⟩
          apply Array.toList_inj.1
          simpa using hv2.2
        have hargs : ((argv.map (PV.emb E)).toArray ++ (PV.embs E caps).toArray) = ((argv ++ caps).map (PV.emb E)).toArray := by rw [embs_map]; simp
        have hcall : (execOp a.eval o).run P w = (callFunc g ((argv ++ caps).map (PV.emb E)).toArray).run P w := by
          have := call_run (P := P) (w := w) (a := a) (c := ⟨.value f, args, ts⟩) (ty := o.type) rfl hv1.1 hv1.2
          rw [hargs] at this
          rw [← this]
          simp only [execOp, ho]
        have hnames : ∀ v ∈ argv ++ caps, ∀ n ∈ v.names, (m n).isSome = true := by
          intro v hvm n hnn
          rcases List.mem_append.1 hvm with hvm | hvm
          · exact hn v (by simp [hvm]) n hnn
          · exact hn (.clo g caps) (by simp) n (by simp only [PV.names]; exact (namess_mem _).2 ⟨v, hvm, hnn⟩)
        split at hrun
        · rename_i M hMg
          obtain ⟨henter, hcalls⟩ := hO.call g M hMg
          have := hcalls _ B (argv ++ caps) m _ out E w hnames hM hB hI hrun hf hups hnm hnd
          unfold Oper.wp
          rw [hcall, henter]
          simp only [Oper.upon]
          refine this.mono fun e w' he => ?_
          obtain ⟨E', rfl, hA, hM', hB', hF'⟩ := he
          exact hK E' w' hA hM' hB' hF'
        · split at hrun
          · rename_i M hMg
            obtain ⟨u, hu, hout⟩ := bind_putT hrun
            exact value u hout (by rw [hcall]; exact hO.ext g M hMg _ _ _ _ hu)
          · cases hrun
      · cases hrun
    | invoke r n => cases hrun
  · cases hrun
theorem core_ok {P : Program} {tid : ET → TypeId} {I : WInv} {O : Orc} (hO : OrcOk P tid I O) (nb k : Nat) : DoerOk P tid I (mkDoer P O nb k) := core_ok' hO (nb + k * 1000)
end Go.Proofs.YtpbklojdmkpkcaaDoor
/- The evaluator: loops: how a state of a round's end becomes one of a round's head. -/
namespace Go.Proofs.YtpbklojdmkpkcaaDoor
open Go Go.RowKit
set_option linter.unusedVariables false
set_option linter.unusedSimpArgs false

def Env.ren (ρ : Ren) (E : Env) : Env :=
  { at_ := fun n => match Go.Proofs.YtpbklojdmkpkcaaDoor.ren ρ n with
      | none => E.at_ n
      | some none => none
      | some (some b) => E.at_ b
    len := fun n => match Go.Proofs.YtpbklojdmkpkcaaDoor.ren ρ n with
      | none => E.len n
      | some none => 0
      | some (some b) => E.len b
    cap := fun n => match Go.Proofs.YtpbklojdmkpkcaaDoor.ren ρ n with
      | none => E.cap n
      | some none => 0
      | some (some b) => E.cap b }
theorem Env.ren_none {ρ : Ren} {E : Env} {n : Nat} (h : Go.Proofs.YtpbklojdmkpkcaaDoor.ren ρ n = none) : (E.ren ρ).at_ n = E.at_ n ∧ (E.ren ρ).len n = E.len n ∧ (E.ren ρ).cap n = E.cap n := by
  simp only [Env.ren, h, and_self]
theorem Env.ren_nil {ρ : Ren} {E : Env} {n : Nat} (h : Go.Proofs.YtpbklojdmkpkcaaDoor.ren ρ n = some none) : (E.ren ρ).at_ n = none ∧ (E.ren ρ).len n = 0 ∧ (E.ren ρ).cap n = 0 := by
  simp only [Env.ren, h, and_self]
theorem Env.ren_some {ρ : Ren} {E : Env} {n b : Nat} (h : Go.Proofs.YtpbklojdmkpkcaaDoor.ren ρ n = some (some b)) : (E.ren ρ).at_ n = E.at_ b ∧ (E.ren ρ).len n = E.len b ∧ (E.ren ρ).cap n = E.cap b := by
  simp only [Env.ren, h, and_self]
theorem ren_out {L : List Nat} : ∀ {ρ : Ren} {n : Nat}, ρ.all (fun p => has L p.1) = true → ¬ has L n = true → ren ρ n = none
  | [], n, _, _ => rfl
  | (r, o) :: l, n, h, hn => by
    rw [List.all_cons, Bool.and_eq_true] at h
    unfold ren
    cases hb : Nat.beq r n
    · exact ren_out h.2 hn
    · have : r = n := Nat.beq_eq ▸ hb
      subst this
      exact absurd h.1 hn
theorem andO_some {p q : Option Prop} {r : Prop} (h : andO p q = some r) : ∃ a b, p = some a ∧ q = some b ∧ r = (a ∧ b) := by
  unfold andO at h
  split at h
  · cases h; exact ⟨_, _, rfl, rfl, rfl⟩
  · cases h
section
variable {ρ : Ren} {E : Env}
mutual
theorem eqPV_ok : ∀ (u v : PV) {p : Prop}, eqPV ρ u v = some p → p → u.emb E = v.emb (E.ren ρ)
  | .agg l, v, p, h, hp => by
    cases v with
    | agg l' => simp only [eqPV] at h; simp only [PV.emb]; rw [eqPVs_ok l l' h hp]
    | _ => simp [eqPV] at h
  | .tup l, v, p, h, hp => by
    cases v with
    | tup l' => simp only [eqPV] at h; simp only [PV.emb]; rw [eqPVs_ok l l' h hp]
    | _ => simp [eqPV] at h
  | .isnil _ _, v, p, h, hp => by cases v <;> simp [eqPV] at h
  | .clo f l, v, p, h, hp => by
    cases v with
    | clo g l' =>
      simp only [eqPV] at h
      cases hb : Nat.beq f g <;> rw [hb] at h
      · cases h
      · have : f = g := Nat.beq_eq ▸ hb
        subst this
        simp only [PV.emb]; rw [eqPVs_ok l l' h hp]
    | _ => simp [eqPV] at h
  | .ptr b sz i off, v, p, h, hp => by
    cases v with
    | ptr b' sz' i' off' =>
      simp only [eqPV] at h
      cases hb : (Nat.beq b b' && Nat.beq sz sz' && Nat.beq off off') <;> rw [hb] at h
      · cases h
      · simp only [Bool.and_eq_true, Nat.beq_eq] at hb
        obtain ⟨⟨rfl, rfl⟩, rfl⟩ := hb
        simp only [cond_true] at h
        split at h
        · rename_i hr
          cases h
          subst hp
          simp only [PV.emb, (Env.ren_none (E := E) hr).1]
        · cases h
    | _ => simp [eqPV] at h
  | .sl b sz, v, p, h, hp => by
    cases v with
    | sl r sz' =>
      simp only [eqPV] at h
      cases hb : Nat.beq sz sz' <;> rw [hb] at h
      · cases h
      · simp only [cond_true] at h
        split at h
        · rename_i hr
          cases hb2 : Nat.beq b r <;> rw [hb2] at h
          · cases h
          · have : b = r := Nat.beq_eq ▸ hb2
            subst this
            have := Env.ren_none (E := E) hr
            simp only [PV.emb, this.1, this.2.1, this.2.2]
        · rename_i c hr
          cases hb2 : Nat.beq b c <;> rw [hb2] at h
          · cases h
          · have : b = c := Nat.beq_eq ▸ hb2
            subst this
            have := Env.ren_some (E := E) hr
            simp only [PV.emb, this.1, this.2.1, this.2.2]
        · cases h
    | _ => simp [eqPV] at h
  | .raw a, v, p, h, hp => by
    unfold eqPV at h
    split at h
    · rename_i e2
      injection e2 with e2; subst e2
      split at h
      · rename_i hk
        simp only [Option.some.injEq] at h
        subst h; subst hp; subst hk; rfl
      · cases h
    · rename_i e2
      injection e2 with e2; subst e2
      simp only [Option.some.injEq] at h
      subst h; subst hp; rfl
    · rename_i e2
      first | (have e3 := PV.raw.inj e2; rw [e3]; rfl) | (trace_state; done)
    · rename_i e2
      injection e2 with e2; subst e2
      split at h
      · rename_i hr
        simp only [PV.emb, (Env.ren_nil (E := E) hr).1]
      · cases h
    all_goals (first | (rename_i e2; cases e2; done) | (cases h; done) | skip)
theorem eqPVs_ok : ∀ (l l' : List PV) {p : Prop}, eqPVs ρ l l' = some p → p → PV.embs E l = PV.embs (E.ren ρ) l'
  | [], l', p, h, hp => by
    cases l' with
    | nil => rfl
    | cons _ _ => simp [eqPVs] at h
  | u :: r, l', p, h, hp => by
    cases l' with
    | nil => simp [eqPVs] at h
    | cons v r' =>
      simp only [eqPVs] at h
      obtain ⟨a, b, h1, h2, rfl⟩ := andO_some h
      simp only [PV.embs, eqPV_ok u v h1 hp.1, eqPVs_ok r r' h2 hp.2]
end
theorem eqBlk_ok {tid : ET → TypeId} {B : Nat} {w : World} {b r : Nat} (hb : (E.ren ρ).at_ r = E.at_ b ∧ (E.ren ρ).len r = E.len b ∧ (E.ren ρ).cap r = E.cap b) : ∀ {k' k : Blk} {p : Prop}, eqBlk ρ k' k = some p → p → BlkOk tid B E w b k' → BlkOk tid B (E.ren ρ) w r k ∧ k'.own = k.own
  | .cells l ty, .cells l' ty', p, h, hp, hk => by
    simp only [eqBlk] at h
    cases ht : Nat.beq ty ty' <;> rw [ht] at h
    · cases h
    · have : ty = ty' := Nat.beq_eq ▸ ht
      subst this
      obtain ⟨g, h1, h2, h3⟩ := hk
      refine ⟨⟨g, by rw [hb.1]; exact h1, h2, ?_⟩, rfl⟩
      rw [← eqPVs_ok l l' h hp]; exact h3
  | .row own t l, .row own' t' l', p, h, hp, hk => by
    simp only [eqBlk] at h
    cases ho : (own == own') <;> rw [ho] at h
    · cases h
    · have : own = own' := by simpa using ho
      subst this
      simp only [cond_true] at h
      split at h
      · rename_i ht
        subst ht
        simp only [Option.some.injEq] at h
        subst h
        have hp : l = l' := hp
        subst hp
        refine ⟨?_, rfl⟩
        have hk : RowOk tid B E w b own t l := hk
        show RowOk tid B (E.ren ρ) w r own t l
        unfold RowOk at hk ⊢
        rw [hb.1, hb.2.1, hb.2.2]
        exact hk
      · cases h
  | .cells _ _, .row _ _ _, p, h, hp, hk => by simp [eqBlk] at h
  | .row _ _ _, .cells _ _, p, h, hp, hk => by simp [eqBlk] at h
theorem upds_cases {α : Type} : ∀ (l : List (Nat × α)) (f : Nat → Option α) {n : Nat} {v : α}, upds f l n = some v → (n, v) ∈ l ∨ (n ∉ l.map (·.1) ∧ f n = some v)
  | [], f, n, v, h => .inr ⟨by simp, h⟩
  | (k, u) :: r, f, n, v, h => by
    rcases upds_cases r (upd f k u) h with h | ⟨h1, h2⟩
    · exact .inl (List.mem_cons_of_mem _ h)
    · by_cases hk : n = k
      · subst hk
        rw [upd_same] at h2
        cases h2
        exact .inl List.mem_cons_self
      · rw [upd_ne f u hk] at h2
        exact .inr ⟨by simp [hk] at h1 ⊢; exact h1, h2⟩
theorem zip_keys {α : Type} : ∀ {ks : List Nat} {vs : List α}, ks.length = vs.length → (ks.zip vs).map (·.1) = ks
  | [], [], _ => rfl
  | _ :: _, _ :: _, h => by simp only [List.zip_cons_cons, List.map_cons]; rw [zip_keys (by simpa using h)]
theorem fitT_ok {s : St} : ∀ {ks : List Nat} {vs : List PV} {p : Prop}, fitT ρ s ks vs = some p → p → ks.length = vs.length ∧ ∀ t v, (t, v) ∈ ks.zip vs → ∃ u q, s.tmps t = some u ∧ eqPV ρ u v = some q ∧ q
  | [], [], p, h, hp => ⟨rfl, by simp⟩
  | [], _ :: _, p, h, hp => by simp [fitT] at h
  | _ :: _, [], p, h, hp => by simp [fitT] at h
  | t :: ts, v :: vs, p, h, hp => by
    simp only [fitT] at h
    split at h
    · rename_i u hu
      obtain ⟨a, b, h1, h2, rfl⟩ := andO_some h
      obtain ⟨i1, i2⟩ := fitT_ok h2 hp.2
      refine ⟨by simp [i1], fun t' v' hm => ?_⟩
      rw [List.zip_cons_cons] at hm
      rcases List.mem_cons.1 hm with hm | hm
      · cases hm; exact ⟨u, a, hu, h1, hp.1⟩
      · exact i2 t' v' hm
    · cases h
theorem fitB_ok {s : St} : ∀ {ks : List Nat} {vs : List Blk} {p : Prop}, fitB ρ s ks vs = some p → p → ks.length = vs.length ∧ ∀ t v, (t, v) ∈ ks.zip vs → ∃ q, fit1 ρ s t v = some q ∧ q
  | [], [], p, h, hp => ⟨rfl, by simp⟩
  | [], _ :: _, p, h, hp => by simp [fitB] at h
  | _ :: _, [], p, h, hp => by simp [fitB] at h
  | t :: ts, v :: vs, p, h, hp => by
    simp only [fitB] at h
    obtain ⟨a, b, h1, h2, rfl⟩ := andO_some h
    obtain ⟨i1, i2⟩ := fitB_ok h2 hp.2
    refine ⟨by simp [i1], fun t' v' hm => ?_⟩
    rw [List.zip_cons_cons] at hm
    rcases List.mem_cons.1 hm with hm | hm
    · cases hm; exact ⟨a, h1, hp.1⟩
    · exact i2 t' v' hm
theorem tgts_mem : ∀ {ks : List Nat} {vs : List Blk} {b c : Nat} {k : Blk}, (b, k) ∈ ks.zip vs → k.own = true → tgt ρ b = some c → c ∈ tgts ρ ks vs
  | [], vs, b, c, k, h, ho, ht => by simp at h
  | _ :: _, [], b, c, k, h, ho, ht => by simp at h
  | r :: rs, j :: ks, b, c, k, h, ho, ht => by
    rw [List.zip_cons_cons] at h
    simp only [tgts]
    rcases List.mem_cons.1 h with h | h
    · cases h
      rw [ho, ht]
      simp
    · have ih := tgts_mem h ho ht
      cases j.own
      · exact ih
      · exact List.mem_append_right _ ih
theorem nodupB_iff : ∀ {l : List Nat}, nodupB l = true ↔ l.Nodup
  | [] => by simp [nodupB]
  | n :: r => by
    rw [nodupB, Bool.and_eq_true, nodupB_iff, List.nodup_cons, Bool.not_eq_true', ← Bool.not_eq_true, has_iff]
theorem tgts_apart : ∀ {ks : List Nat} {vs : List Blk} {b c i j : Nat} {k k' : Blk}, (tgts ρ ks vs).Nodup → (b, k) ∈ ks.zip vs → (c, k') ∈ ks.zip vs → b ≠ c → k.own = true → k'.own = true → tgt ρ b = some i → tgt ρ c = some j → i ≠ j
  | [], vs, b, c, i, j, k, k', hn, h1, h2, hbc, o1, o2, t1, t2 => by simp at h1
  | _ :: _, [], b, c, i, j, k, k', hn, h1, h2, hbc, o1, o2, t1, t2 => by simp at h1
  | r :: rs, m :: ks, b, c, i, j, k, k', hn, h1, h2, hbc, o1, o2, t1, t2 => by
    rw [List.zip_cons_cons] at h1 h2
    simp only [tgts] at hn
    rcases List.mem_cons.1 h1 with h1 | h1 <;> rcases List.mem_cons.1 h2 with h2 | h2
    · cases h1; cases h2; exact absurd rfl hbc
    · cases h1
      rw [o1, cond_true, t1] at hn
      have := tgts_mem (ρ := ρ) h2 o2 t2
      simp only [Option.toList_some, List.cons_append, List.nil_append, List.nodup_cons] at hn
      exact fun e => hn.1 (e ▸ this)
    · cases h2
      rw [o2, cond_true, t2] at hn
      have := tgts_mem (ρ := ρ) h1 o1 t1
      simp only [Option.toList_some, List.cons_append, List.nil_append, List.nodup_cons] at hn
      exact fun e => hn.1 (e ▸ this)
    · refine tgts_apart ?_ h1 h2 hbc o1 o2 t1 t2
      cases ho : m.own <;> rw [ho] at hn
      · exact hn
      · exact (List.nodup_append.1 hn).2.1
end
theorem gather_ok {β : Type} {k : List Nat → Tr β} {Φ : β → Prop} : ∀ (l acc : List Nat), (gather l acc k).holds Φ → ∃ l', (k l').holds Φ
  | [], acc, h => ⟨acc, h⟩
  | n :: r, acc, h => by
    simp only [gather] at h
    split at h
    · exact gather_ok r acc h
    · exact gather_ok r (n :: acc) h
theorem sift_ok {β : Type} {p : Nat → Bool} {Φ : β → Prop} : ∀ (l : List Nat) {k : List Nat → Tr β}, (sift p l k).holds Φ → ∃ l', (k l').holds Φ ∧ (∀ n ∈ l', p n = true) ∧ ∀ n ∈ l', n ∈ l
  | [], k, h => ⟨[], h, by simp, by simp⟩
  | n :: r, k, h => by
    simp only [sift] at h
    split at h
    · rename_i hn
      obtain ⟨l', h1, h2, h3⟩ := sift_ok r h
      refine ⟨n :: l', h1, fun m hm => ?_, fun m hm => ?_⟩
      · rcases List.mem_cons.1 hm with rfl | hm
        · exact hn
        · exact h2 m hm
      · rcases List.mem_cons.1 hm with rfl | hm
        · exact List.mem_cons_self
        · exact List.mem_cons_of_mem _ (h3 m hm)
    · obtain ⟨l', h1, h2, h3⟩ := sift_ok r h
      exact ⟨l', h1, h2, fun m hm => List.mem_cons_of_mem _ (h3 m hm)⟩
/-- What a loop's head leans on. -/
structure HeadOk (M lt lb A : List Nat) (L : LSpec) (s : St) (T N : List Nat) : Prop where
  slot : ∀ t ∈ T, okSlot s L N t = true
  asg : ∀ t ∈ T, t ∉ A
  keyT : ∀ t ∈ T, t ∉ L.keysT
  keyB : ∀ n ∈ N, n ∉ L.keysB
  name : ∀ n ∈ N, okName s L N n = true
  lt : ∀ t ∈ lt, t ∈ T
  lb : ∀ n ∈ lb, n ∈ N
  M : ∀ n ∈ M, stays L N n = true
  rows : ∀ r ∈ L.rows, r ∈ L.keysB
theorem atHead_ok {nt : Nat} {M lt lb A : List Nat} {L : LSpec} {s : St} {ρ : Ren} {k : List Nat → List Nat → Tr (Ex × St)} {Φ : Ex × St → Prop} (h : (atHead nt M lt lb A L s ρ k).holds Φ) : ∃ T N, HeadOk M lt lb A L s T N ∧ (k T N).holds Φ := by
  unfold atHead at h
  obtain ⟨T0, h, a1, _⟩ := sift_ok _ h
  obtain ⟨N0, h⟩ := gather_ok _ _ h
  obtain ⟨N1, h, b1, _⟩ := sift_ok _ h
  obtain ⟨N, h, c1, c2⟩ := sift_ok _ h
  obtain ⟨T, h, d1, d2⟩ := sift_ok _ h
  cases ho : okHd M lt lb L s T N <;> rw [ho] at h
  · exact h.elim
  · simp only [okHd, Bool.and_eq_true, List.all_eq_true] at ho
    obtain ⟨⟨⟨⟨⟨⟨o1, o2⟩, o3⟩, o4⟩, o5⟩, o6⟩, o7⟩ := ho
    refine ⟨T, N, ⟨d1, fun t ht => ?_, fun t ht => ?_, fun n hn => ?_, o1, fun t ht => has_iff.1 (o2 t ht), fun n hn => has_iff.1 (o3 n hn), o4, fun r hr => has_iff.1 (o7 r hr).1⟩, h⟩
    · have := a1 t (d2 t ht)
      simp only [Bool.and_eq_true, Bool.not_eq_true', ← Bool.not_eq_true, has_iff] at this
      exact this.1.2
    · have := a1 t (d2 t ht)
      simp only [Bool.and_eq_true, Bool.not_eq_true', ← Bool.not_eq_true, has_iff] at this
      exact this.2
    · have := b1 n (c2 n hn)
      simp only [Bool.and_eq_true, Bool.not_eq_true', ← Bool.not_eq_true, has_iff] at this
      exact this.1
section
variable {P : Program} {tid : ET → TypeId} {I : WInv} {B : Nat} {w0 : World} {nt : Nat} {E0 : Env} {m0 : Nat → Option Blk}
theorem head_tmps {s : St} {T N : List Nat} {L : LSpec} {v : List PV × List Blk} {t : Nat} {u : PV} (h : (s.head T N L v).tmps t = some u) : (t, u) ∈ L.keysT.zip v.1 ∨ (t ∈ T ∧ s.tmps t = some u) := by
  rcases upds_cases _ _ h with h | ⟨_, h⟩
  · exact .inl h
  · cases ht : has T t <;> rw [ht] at h
    · cases h
    · exact .inr ⟨has_iff.1 ht, h⟩
theorem head_mem {s : St} {T N : List Nat} {L : LSpec} {v : List PV × List Blk} {t : Nat} {u : Blk} (h : (s.head T N L v).mem t = some u) : (t, u) ∈ L.keysB.zip v.2 ∨ (t ∈ N ∧ s.mem t = some u) := by
  rcases upds_cases _ _ h with h | ⟨_, h⟩
  · exact .inl h
  · cases ht : has N t <;> rw [ht] at h
    · cases h
    · exact .inr ⟨has_iff.1 ht, h⟩
theorem fit_rel {M lt lb A T N : List Nat} {L : LSpec} {s s' : St} {ρ : Ren} {v : List PV × List Blk} {Φ : Unit → Prop} {E : Env} {a : Act} {w : World} (hM : ∀ b, (m0 b).isSome = true → b ∈ M) (hd : HeadOk M lt lb A L s T N)
    (hT : ∀ t ∈ T, s'.tmps t = s.tmps t) (hN : ∀ n ∈ N, s'.mem n = s.mem n) (h : (fitTr ρ N L s' v).holds Φ) (hR : Rel tid I B w0 nt E0 m0 E s' a w) : Rel tid I B w0 nt E0 m0 (E.ren ρ) (s.head T N L v) a w ∧ Φ () := by
  unfold fitTr at h
  split at h
  · rename_i p q hp hq
    cases hk : okFit ρ N L v <;> rw [hk] at h
    · exact h.elim
    · obtain ⟨h1, h2, h3⟩ := h
      refine ⟨?_, h3⟩
      obtain ⟨l1, f1⟩ := fitT_ok hp h1
      obtain ⟨l2, f2⟩ := fitB_ok hq h2
      simp only [okFit, Bool.and_eq_true] at hk
      obtain ⟨⟨⟨⟨k1, k2⟩, k3⟩, k4⟩, k5⟩ := hk
      have hst : ∀ n, stays L N n = true → ren ρ n = none := by
        intro n hn
        refine ren_out k1 fun hr => ?_
        simp only [stays, Bool.or_eq_true, Bool.and_eq_true, Bool.not_eq_true', ← Bool.not_eq_true, has_iff] at hn
        rw [has_iff] at hr
        rcases hn with hn | hn
        · exact hd.keyB n hn (hd.rows n hr)
        · exact hn.2 hr
      have hNs : ∀ n ∈ N, stays L N n = true := fun n hn => by simp only [stays, Bool.or_eq_true, has_iff]; exact .inl hn
      have hdom : ∀ n, (has N n || has L.keysB n) = true → ((s.head T N L v).mem n).isSome = true := by
        intro n hn
        rw [Bool.or_eq_true, has_iff, has_iff] at hn
        show (upds _ _ n).isSome = true
        rw [upds_some, zip_keys l2, Bool.or_eq_true, has_iff]
        rcases hn with hn | hn
        · left
          rw [has_iff.2 hn]
          have := hd.name n hn
          unfold okName at this
          split at this
          · rename_i k hk; simp [hk]
          · cases this
        · exact .inr hn
      have hstd : ∀ n, stays L N n = true → ((s.head T N L v).mem n).isSome = true := fun n hn => hdom n (by
        simp only [stays, Bool.or_eq_true, Bool.and_eq_true] at hn ⊢
        rcases hn with hn | hn
        · exact .inl hn
        · exact .inr hn.1)
      have slotN : ∀ t ∈ T, ∀ u, s.tmps t = some u → ∀ n ∈ u.names, stays L N n = true := by
        intro t ht u hu n hn
        have := hd.slot t ht
        unfold okSlot at this
        rw [hu] at this
        exact (PV.ok_iff _ _).1 this n hn
      have nameN : ∀ b ∈ N, ∀ k, s.mem b = some k → ∀ n ∈ k.names, stays L N n = true := by
        intro b hb k hk n hn
        have := hd.name b hb
        unfold okName at this
        rw [hk] at this
        exact (Blk.ok_iff _ _).1 this n hn
      have emb : ∀ u : PV, (∀ n ∈ u.names, stays L N n = true) → u.emb (E.ren ρ) = u.emb E := fun u hu => PV.emb_congr u fun n hn => Env.ren_none (hst n (hu n hn))
      have embs : ∀ l : List PV, (∀ n ∈ PV.namess l, stays L N n = true) → PV.embs (E.ren ρ) l = PV.embs E l := fun l hl => PV.embs_congr l fun n hn => Env.ren_none (hst n (hl n hn))
      have key : ∀ b k i f, (b, k) ∈ L.keysB.zip v.2 → k.own = true → (E.ren ρ).at_ b = some (i, f) → ∃ c k', tgt ρ b = some c ∧ s'.mem c = some k' ∧ k'.own = true ∧ E.at_ c = some (i, f) := by
        intro b k i f hb ho hi
        obtain ⟨r, e1, e2⟩ := f2 b k hb
        unfold fit1 at e1
        split at e1
        · rename_i hr
          rw [(Env.ren_nil (E := E) hr).1] at hi; cases hi
        · rename_i c hr
          split at e1
          · rename_i k' hk'
            have e3 := (eqBlk_ok (Env.ren_some hr) e1 e2 (hR.mem.blk c k' hk')).2
            exact ⟨c, k', by unfold tgt; rw [hr], hk', by rw [e3]; exact ho, by rw [← (Env.ren_some (E := E) hr).1]; exact hi⟩
          · cases e1
        · rename_i hr
          split at e1
          · rename_i k' hk'
            have e3 := (eqBlk_ok (Env.ren_none hr) e1 e2 (hR.mem.blk b k' hk')).2
            exact ⟨b, k', by unfold tgt; rw [hr], hk', by rw [e3]; exact ho, by rw [← (Env.ren_none (E := E) hr).1]; exact hi⟩
          · cases e1
      refine ⟨hR.defers, hR.size, fun t u hu => ?_, fun t u hu => ?_, fun t u hu n hn => ?_, ⟨fun b k hb => ?_, fun b k hb n hn => ?_, fun b c k k' i j f g hbc hb hc o1 o2 e1 e2 => ?_⟩, hR.below, hR.base, hR.inv, fun b hb => ?_, fun b hb => ?_, ⟨hR.frame.keep, fun b k i f hb ho hi hlt => ?_⟩⟩
      · rcases head_tmps hu with hu | ⟨ht, hu⟩
        · obtain ⟨x, r, e1, e2, e3⟩ := f1 t u hu
          rw [hR.tmps t x e1]; exact eqPV_ok x u e2 e3
        · rw [hR.tmps t u (by rw [hT t ht]; exact hu), emb u (slotN t ht u hu)]
      · rcases head_tmps hu with hu | ⟨ht, hu⟩
        · obtain ⟨x, r, e1, e2, e3⟩ := f1 t u hu
          exact hR.lt t x e1
        · exact hR.lt t u (by rw [hT t ht]; exact hu)
      · rcases head_tmps hu with hu | ⟨ht, hu⟩
        · have := (List.all_eq_true.1 k4) u (List.of_mem_zip hu).2
          exact hdom n ((PV.ok_iff _ _).1 this n hn)
        · exact hstd n (slotN t ht u hu n hn)
      · rcases head_mem hb with hb | ⟨hbN, hb⟩
        · obtain ⟨r, e1, e2⟩ := f2 b k hb
          unfold fit1 at e1
          split at e1
          · rename_i hr
            split at e1
            · simp only [Option.some.injEq] at e1
              subst e1
              subst e2
              show RowOk tid B (E.ren ρ) w b _ _ _
              unfold RowOk
              rw [(Env.ren_nil (E := E) hr).1]
            · cases e1
          · rename_i c hr
            split at e1
            · rename_i k' hk'
              exact (eqBlk_ok (Env.ren_some hr) e1 e2 (hR.mem.blk c k' hk')).1
            · cases e1
          · rename_i hr
            split at e1
            · rename_i k' hk'
              exact (eqBlk_ok (Env.ren_none hr) e1 e2 (hR.mem.blk b k' hk')).1
            · cases e1
        · have := hR.mem.blk b k (by rw [hN b hbN]; exact hb)
          have rn := Env.ren_none (E := E) (hst b (hNs b hbN))
          cases k with
          | cells cs ty =>
            obtain ⟨g, g1, g2, g3⟩ := this
            refine ⟨g, by rw [rn.1]; exact g1, g2, ?_⟩
            rw [embs cs (nameN b hbN _ hb)]; exact g3
          | row own t l =>
            have this : RowOk tid B E w b own t l := this
            show RowOk tid B (E.ren ρ) w b own t l
            unfold RowOk at this ⊢
            rw [rn.1, rn.2.1, rn.2.2]
            exact this
          | gone => trivial
      · rcases head_mem hb with hb | ⟨hbN, hb⟩
        · have := (List.all_eq_true.1 k5) k (List.of_mem_zip hb).2
          exact hdom n ((Blk.ok_iff _ _).1 this n hn)
        · exact hstd n (nameN b hbN k hb n hn)
      · have out : ∀ c, c ∈ tgts ρ L.keysB v.2 → c ∉ N := by
          intro c hc
          have := List.all_eq_true.1 k3 c hc
          simpa only [Bool.not_eq_true', ← Bool.not_eq_true, has_iff] using this
        rcases head_mem hb with hb | ⟨hbN, hb⟩ <;> rcases head_mem hc with hc | ⟨hcN, hc⟩
        · obtain ⟨b', j', t1, m1, p1, q1⟩ := key b k i f hb o1 e1
          obtain ⟨c', j'', t2, m2, p2, q2⟩ := key c k' j g hc o2 e2
          exact hR.mem.apart b' c' _ _ i j f g (tgts_apart (nodupB_iff.1 k2) hb hc hbc o1 o2 t1 t2) m1 m2 p1 p2 q1 q2
        · obtain ⟨b', j', t1, m1, p1, q1⟩ := key b k i f hb o1 e1
          refine hR.mem.apart b' c _ _ i j f g (fun e => out b' (tgts_mem hb o1 t1) (e ▸ hcN)) m1 (by rw [hN c hcN]; exact hc) p1 o2 q1 ?_
          rw [← (Env.ren_none (E := E) (hst c (hNs c hcN))).1]; exact e2
        · obtain ⟨c', j', t1, m1, p1, q1⟩ := key c k' j g hc o2 e2
          refine hR.mem.apart b c' _ _ i j f g (fun e => out c' (tgts_mem hc o2 t1) (e ▸ hbN)) (by rw [hN b hbN]; exact hb) m1 o1 p1 ?_ q1
          rw [← (Env.ren_none (E := E) (hst b (hNs b hbN))).1]; exact e1
        · refine hR.mem.apart b c _ _ i j f g hbc (by rw [hN b hbN]; exact hb) (by rw [hN c hcN]; exact hc) o1 o2 ?_ ?_
          · rw [← (Env.ren_none (E := E) (hst b (hNs b hbN))).1]; exact e1
          · rw [← (Env.ren_none (E := E) (hst c (hNs c hcN))).1]; exact e2
      · have := hR.from_ b hb
        have rn := Env.ren_none (E := E) (hst b (hd.M b (hM b hb)))
        exact ⟨rn.1.trans this.1, rn.2.1.trans this.2.1, rn.2.2.trans this.2.2⟩
      · exact hstd b (hd.M b (hM b hb))
      · rcases head_mem hb with hb | ⟨hbN, hb⟩
        · obtain ⟨c, k', _, m1, p1, q1⟩ := key b k i f hb ho hi
          exact hR.frame.orig c k' i f m1 p1 q1 hlt
        · exact hR.frame.orig b k i f (by rw [hN b hbN]; exact hb) ho (by rw [← (Env.ren_none (E := E) (hst b (hNs b hbN))).1]; exact hi) hlt
  · exact h.elim
end
end Go.Proofs.YtpbklojdmkpkcaaDoor
/- The evaluator: code, functions, contracts. -/
namespace Go.Proofs.YtpbklojdmkpkcaaDoor
open Go Go.RowKit
set_option linter.unusedVariables false
set_option linter.unusedSimpArgs false

def Ex.to : Ex → Exit
  | .normal => .normal
  | .ret => .ret
  | .exit id => .exit id
def ress (P : Program) (s : St) : List ResultVar → Option (List PV)
  | [] => some []
  | .tmp t :: r => match s.tmps t, ress P s r with
    | some v, some l => some (v :: l)
    | _, _ => none
  | .cell x t :: r => match s.tmps x, ress P s r with
    | some (.ptr b sz i off), some l => match s.mem b with
      | some (.cells cs _) => match partPV P t cs (i * sz + off) with
        | some v => some (v :: l)
        | none => none
      | _ => none
    | _, _ => none
def resOf (P : Program) (fn : Func) (s : St) : Option PV := match ress P s fn.results.toList with
  | some [v] => some v
  | some l => some (.tup l)
  | none => none
def initSt (args : List PV) (m : Nat → Option Blk) : St := { tmps := fun t => args[t]?, mem := m }
def evFunc (P : Program) (D : Nat → Doer) (fn : Func) (Ls : List LSpec) (M lb : List Nat) (args : List PV) (m : Nat → Option Blk) : Tr (PV × St) := match fn.body with
  | some c => (evCode D fn.ntmps M c 0 Ls [] lb (initSt args m)).bind fun (e, s) => match e with
    | .exit _ => .bad 70
    | _ => match resOf P fn s with
      | some v => .ret (v, s)
      | none => .bad 71
  | none => .bad 72

section
variable {P : Program} {tid : ET → TypeId} {I : WInv} {B : Nat} {w0 : World} {nt : Nat} {E0 : Env} {m0 : Nat → Option Blk} {D : Doer}
def Rl (tid : ET → TypeId) (I : WInv) (B : Nat) (w0 : World) (nt : Nat) (E0 : Env) (m0 : Nat → Option Blk) (s : St) (a : Act) (w : World) : Prop := ∃ E, Rel tid I B w0 nt E0 m0 E s a w
theorem Rl.drew {s : St} {a : Act} {w : World} {n : Nat} (h : Rl tid I B w0 nt E0 m0 s a w) : Rl tid I B w0 nt E0 m0 s a { w with drawn := n } := by
  obtain ⟨E, h⟩ := h
  exact ⟨E, h.defers, h.size, h.tmps, h.lt, h.tok, ⟨h.mem.blk, h.mem.ok, h.mem.apart⟩, ⟨h.below.os, h.below.tape, h.below.output, h.below.size, h.below.block⟩, h.base, I.below _ _ _ h.inv ⟨rfl, rfl, rfl, Nat.le_refl _, fun _ _ => rfl⟩, h.from_, h.dom, ⟨h.frame.keep, h.frame.orig⟩⟩
def Kept (lt lb : List Nat) (s s' : St) : Prop := (∀ t ∈ lt, s'.tmps t = s.tmps t) ∧ ∀ n ∈ lb, s'.mem n = s.mem n
theorem lockD_run {lb : List Nat} {o : Oper} {vals : List PV} {m : Nat → Option Blk} {out : Out} (h : ((lockD D lb).core o vals m).run = some out) : (D.core o vals m).run = some out ∧ ∀ u ∈ out.ups, u.1 ∉ lb := by
  simp only [lockD, Tr.run_bind, Option.bind_eq_some_iff] at h
  obtain ⟨x, hx, h⟩ := h
  cases hb : x.ups.all fun u => !has lb u.1 <;> rw [hb] at h
  · cases h
  · cases h
    refine ⟨hx, fun u hu => ?_⟩
    have := List.all_eq_true.1 hb u hu
    simpa only [Bool.not_eq_true', ← Bool.not_eq_true, has_iff] using this
theorem lockD_ok (hD : DoerOk P tid I D) (lb : List Nat) : DoerOk P tid I (lockD D lb) := fun B o vals m out E a w K Q h1 h2 h3 h4 h5 h6 => hD B o vals m out E a w K Q h1 h2 h3 h4 h5 (lockD_run h6).1
theorem Kept.app {lt lb : List Nat} {s0 s : St} {ops : Array Oper} {o : Oper} {out : Out} {c : Rec} (h : Kept lt lb s0 s) (hst : StepAt (lockD D lb) nt ops o s out c) (hd : ∀ t ∈ lt, t ∉ o.dst.toList) (hs : ∀ n ∈ lb, (s0.mem n).isSome = true) : Kept lt lb s0 (s.app o.dst out) := by
  refine ⟨fun t ht => ?_, fun n hn => ?_⟩
  · rw [app_tmps_ne (hd t ht)]; exact h.1 t ht
  · rw [app_mem_ne ?_]
    · exact h.2 n hn
    · intro hm
      rcases all_mem.1 hm with hm | hm
      · cases hst with
        | did g vals hv hr hk hc =>
          obtain ⟨u, hu, rfl⟩ := List.mem_map.1 hm
          have := ((okOut_iff.1 hk).2.1.1 u hu).1
          have h2 := hs _ hn
          rw [← h.2 _ hn, this] at h2
          cases h2
        | skipped g ho' hk hc => subst ho'; simp [skipOut] at hm
      · cases hst with
        | did g vals hv hr hk hc =>
          obtain ⟨u, hu, rfl⟩ := List.mem_map.1 hm
          exact (lockD_run hr).2 u hu hn
        | skipped g ho' hk hc => subst ho'; simp [skipOut] at hm
theorem head_T {s : St} {T N : List Nat} {L : LSpec} {v : List PV × List Blk} {t : Nat} (ht : t ∈ T) (hk : t ∉ L.keysT) : (s.head T N L v).tmps t = s.tmps t := by
  show upds _ _ t = _
  rw [upds_out]
  · rw [has_iff.2 ht]; rfl
  · intro hm
    obtain ⟨u, hu, rfl⟩ := List.mem_map.1 hm
    exact hk (List.of_mem_zip (a := u.1) (b := u.2) hu).1
theorem head_N {s : St} {T N : List Nat} {L : LSpec} {v : List PV × List Blk} {t : Nat} (ht : t ∈ N) (hk : t ∉ L.keysB) : (s.head T N L v).mem t = s.mem t := by
  show upds _ _ t = _
  rw [upds_out]
  · rw [has_iff.2 ht]; rfl
  · intro hm
    obtain ⟨u, hu, rfl⟩ := List.mem_map.1 hm
    exact hk (List.of_mem_zip (a := u.1) (b := u.2) hu).1
theorem code_ok {D : Nat → Doer} {M : List Nat} (hm : P.follows .mixedOrders = true) (hD : ∀ k, DoerOk P tid I (D k)) (hl : ∀ k, (D k).Local) (hM : ∀ b, (m0 b).isSome = true → b ∈ M) : ∀ (c : Code) (k : Nat) (Ls : List LSpec) (lt lb : List Nat) (s : St) (Φ : Ex × St → Prop) (a : Act) (w : World) (Q : Exit → Act → World → Prop),
    (∀ t ∈ lt, t ∉ asg c) → (∀ n ∈ lb, (s.mem n).isSome = true) → (evCode D nt M c k Ls lt lb s).holds Φ → Rl tid I B w0 nt E0 m0 s a w → (∀ e s' a' w', Φ (e, s') → Rl tid I B w0 nt E0 m0 s' a' w' → Kept lt lb s s' → Q e.to a' w') → c.wp P Q a w := by
  intro c
  induction c with
  | skip => intro k Ls lt lb s Φ a w Q ha hb h hR hQ; exact wp_skip (hQ .normal s a w h hR ⟨fun _ _ => rfl, fun _ _ => rfl⟩)
  | region id ops draw =>
    intro k Ls lt lb s Φ a w Q ha hb h hR hQ
    simp only [evCode, Tr.holds_bind, Tr.holds] at h
    refine region_ok (R := fun s' a w => Rl tid I B w0 nt E0 m0 s' a w ∧ Kept lt lb s s') hm (D := lockD (D k) lb) (show (lockD (D k) lb).Local from hl k) ?_ (fun s a w n hR => ⟨Rl.drew hR.1, hR.2⟩) ⟨hR, fun _ _ => rfl, fun _ _ => rfl⟩ h (fun s' a' w' hp hr => hQ .normal s' a' w' hp hr.1 hr.2)
    intro i o s1 out c a w K ho hst hR hK
    refine execs (lockD_ok (hD k) lb) i o s1 out c a w K ho hst hR.1 (fun a' w' h => hK a' w' ⟨h, hR.2.app hst (fun t ht hd => ha t ht ?_) hb⟩)
    exact List.mem_flatMap.2 ⟨o, Array.mem_toList_iff.2 (Array.mem_of_getElem? ho), hd⟩
  | seq x y ihx ihy =>
    intro k Ls lt lb s Φ a w Q ha hb h hR hQ
    simp only [evCode, Tr.holds_bind] at h
    refine wp_seq (ihx k Ls lt lb s _ a w _ (fun t ht h => ha t ht (List.mem_append_left _ h)) hb h hR fun e s' a' w' hp hr hk => ?_)
    cases e with
    | normal => exact ihy k _ lt lb s' Φ a' w' Q (fun t ht h => ha t ht (List.mem_append_right _ h)) (fun n hn => by rw [hk.2 n hn]; exact hb n hn) hp hr fun e s2 a2 w2 hp hr hk2 => hQ e s2 a2 w2 hp hr ⟨fun t ht => (hk2.1 t ht).trans (hk.1 t ht), fun n hn => (hk2.2 n hn).trans (hk.2 n hn)⟩
    | ret => exact hQ .ret s' a' w' hp hr hk
    | exit id => exact hQ (.exit id) s' a' w' hp hr hk
  | cond c x y ihx ihy =>
    intro k Ls lt lb s Φ a w Q ha hb h hR hQ
    simp only [evCode] at h
    split at h
    · rename_i b hc
      obtain ⟨E, hE⟩ := hR
      have T : b = true → (evCode D nt M x k Ls lt lb (s.knowO c true)).holds Φ → x.wp P Q a w := fun hbt h1 => ihx k _ lt lb s Φ a w Q (fun t ht h => ha t ht (List.mem_append_left _ h)) hb (by rwa [knowO_self (by rw [hc, hbt])] at h1) ⟨E, hE⟩ hQ
      have F : b = false → (evCode D nt M y k (Ls.drop (loopsIn x)) lt lb (s.knowO c false)).holds Φ → y.wp P Q a w := fun hbt h1 => ihy k _ lt lb s Φ a w Q (fun t ht h => ha t ht (List.mem_append_right _ h)) hb (by rwa [knowO_self (by rw [hc, hbt])] at h1) ⟨E, hE⟩ hQ
      split at h
      · obtain ⟨hbt, h⟩ := h
        exact wp_cond_split (t := b) (hE.op1 hc) (fun hbt => T hbt h) (fun hbf => by rw [hbt] at hbf; cases hbf)
      · obtain ⟨hbt, h⟩ := h
        have hbf : b = false := by simpa using hbt
        exact wp_cond_split (t := b) (hE.op1 hc) (fun hbt => by rw [hbf] at hbt; cases hbt) (fun hbf => F hbf h)
      · exact wp_cond_split (t := b) (hE.op1 hc) (fun hbt => T hbt (h.1 hbt)) (fun hbf => F hbf (h.2 hbf))
    · rename_i b neg hc
      split at h
      · rename_i own t l hbm
        obtain ⟨E, hE⟩ := hR
        have hrow : RowOk tid B E w b own t l := hE.mem.blk b _ hbm
        have hl : (E.at_ b).isNone = true → l = [] := fun hn => by
          unfold RowOk at hrow
          rw [Option.isNone_iff_eq_none] at hn
          rw [hn] at hrow; exact hrow
        have h := h (E.at_ b).isNone hl
        exact wp_cond_split (t := neg != (E.at_ b).isNone) (hE.op1 hc) (fun hbt => ihx k _ lt lb s Φ a w Q (fun t ht h => ha t ht (List.mem_append_left _ h)) hb (h.1 hbt) ⟨E, hE⟩ hQ)
          (fun hbt => ihy k _ lt lb s Φ a w Q (fun t ht h => ha t ht (List.mem_append_right _ h)) hb (h.2 hbt) ⟨E, hE⟩ hQ)
      · exact h.elim
    · exact h.elim
  | block id c ih =>
    intro k Ls lt lb s Φ a w Q ha hb h hR hQ
    simp only [evCode, Tr.holds_bind] at h
    refine wp_block (ih k Ls lt lb s _ a w _ ha hb h hR fun e s' a' w' hp hr hk => ?_)
    cases e with
    | normal => exact hQ .normal s' a' w' hp hr hk
    | ret => exact hQ .ret s' a' w' hp hr hk
    | exit j =>
      simp only [Ex.to, Exit.inBlock]
      cases hj : Nat.beq j id
      · rw [if_neg (fun e => by rw [e, nb] at hj; cases hj)]
        simp only [hj, cond_false] at hp
        exact hQ (.exit j) s' a' w' hp hr hk
      · rw [if_pos (Nat.beq_eq ▸ hj)]
        simp only [hj, cond_true] at hp
        exact hQ .normal s' a' w' hp hr hk
  | loop b ih =>
    intro k Ls lt lb s Φ a w Q ha hb h hR hQ
    simp only [evCode] at h
    -- round by round
    have un : ∀ (r : List LSpec) (n : Nat), (evUn (fun j s => evCode D nt M b (round k j) r lt lb s) n 0 s).holds Φ → (Code.loop b).wp P Q a w := by
      intro r n hn
      refine wp_loop_ghost (fun n a w => ∃ j s', (evUn (fun j s => evCode D nt M b (round k j) r lt lb s) n j s').holds Φ ∧ Rl tid I B w0 nt E0 m0 s' a w ∧ Kept lt lb s s') n ⟨0, s, hn, hR, fun _ _ => rfl, fun _ _ => rfl⟩ ?_
      rintro n a w ⟨j, s1, h1, hR1, hk1⟩
      cases n with
      | zero => exact h1.elim
      | succ n =>
        simp only [evUn] at h1
        rw [Tr.holds_bind] at h1
        refine ih (round k j) r lt lb s1 _ a w _ ha (fun n hn => by rw [hk1.2 n hn]; exact hb n hn) h1 hR1 fun e s' a' w' hp hr hk => ?_
        have hkk : Kept lt lb s s' := ⟨fun t ht => (hk.1 t ht).trans (hk1.1 t ht), fun n hn => (hk.2 n hn).trans (hk1.2 n hn)⟩
        cases e with
        | normal => exact ⟨n, Nat.lt_succ_self n, j + 1, s', hp, hr, hkk⟩
        | ret => exact hQ .ret s' a' w' hp hr hkk
        | exit id => exact hQ (.exit id) s' a' w' hp hr hkk
    split at h
    · exact un _ _ h
    · rename_i L r
      split at h
      · exact un _ _ h
      · split at h
        · exact h.elim
        · rename_i x0 ρ0 hx0
          obtain ⟨T, N, hd, h⟩ := atHead_ok h
          rw [Tr.holds_bind] at h
          obtain ⟨E, hE⟩ := hR
          obtain ⟨r0, i0, h⟩ := fit_rel hM hd (fun _ _ => rfl) (fun _ _ => rfl) h hE
          refine wp_loop_ghost (fun n a w => ∃ x, L.inv s x ∧ L.μ s x = n ∧ Rl tid I B w0 nt E0 m0 (s.head T N L (L.enc s x)) a w) (L.μ s x0) ⟨x0, i0, rfl, _, r0⟩ ?_
          rintro n a w ⟨x, hx, rfl, hRx⟩
          have hx2 := h x hx
          rw [Tr.holds_bind] at hx2
          refine ih k r T N _ _ a w _ hd.asg (fun n hn => ?_) hx2 hRx fun e s' a' w' hp hr hk => ?_
          · rw [head_N hn (hd.keyB n hn)]
            have := hd.name n hn
            unfold okName at this
            split at this
            · rename_i k hk; simp [hk]
            · cases this
          have hk1 : ∀ t ∈ T, s'.tmps t = s.tmps t := fun t ht => (hk.1 t ht).trans (head_T ht (hd.keyT t ht))
          have hk2 : ∀ n ∈ N, s'.mem n = s.mem n := fun n hn => (hk.2 n hn).trans (head_N hn (hd.keyB n hn))
          have hkk : Kept lt lb s s' := ⟨fun t ht => hk1 t (hd.lt t ht), fun n hn => hk2 n (hd.lb n hn)⟩
          cases e with
          | normal =>
            simp only [atBack] at hp
            split at hp
            · rename_i y ρ hy
              rw [Tr.holds_bind] at hp
              obtain ⟨E', hE'⟩ := hr
              obtain ⟨r1, i1, i2, _⟩ := fit_rel hM hd hk1 hk2 hp hE'
              exact ⟨L.μ s y, i2, y, i1, rfl, _, r1⟩
            · exact hp.elim
          | ret => exact hQ .ret s' a' w' hp hr hkk
          | exit id => exact hQ (.exit id) s' a' w' hp hr hkk
  | exit id => intro k Ls lt lb s Φ a w Q ha hb h hR hQ; exact wp_exit (hQ (.exit id) s a w h hR ⟨fun _ _ => rfl, fun _ _ => rfl⟩)
  | scope c _ => intro k Ls lt lb s Φ a w Q ha hb h hR hQ; exact h.elim
  | ret => intro k Ls lt lb s Φ a w Q ha hb h hR hQ; exact wp_ret (hQ .ret s a w h hR ⟨fun _ _ => rfl, fun _ _ => rfl⟩)
  | rangeFunc f ps x y _ _ => intro k Ls lt lb s Φ a w Q ha hb h hR hQ; exact h.elim
  | label l => intro k Ls lt lb s Φ a w Q ha hb h hR hQ; exact h.elim
  | goto l => intro k Ls lt lb s Φ a w Q ha hb h hR hQ; exact h.elim
  | refuse y => intro k Ls lt lb s Φ a w Q ha hb h hR hQ; exact h.elim
theorem ress_run {E : Env} {s : St} {a : Act} {w : World} (h : Rel tid I B w0 nt E0 m0 E s a w) : ∀ {rs : List ResultVar} {l : List PV}, ress P s rs = some l →
    (rs.mapM (fun | .tmp t => pure (a.tmps.getD t undef) | .cell x t => do loadVar t (← asAddr (a.tmps.getD x undef))) : Sem (List Value)).run P w = .ok (l.map (PV.emb E)) w
  | [], l, hl => by simp only [ress, Option.some.injEq] at hl; subst hl; rfl
  | .tmp t :: r, l, hl => by
    simp only [ress] at hl
    split at hl
    · rename_i v l' hv hr
      simp only [Option.some.injEq] at hl
      subst hl
      have ih := ress_run h hr
      rw [List.mapM_cons]
      simp only [Sem.run_bind, Sem.run_pure, Result.andThen_ok, ih, h.tmps t v hv, List.map_cons]
    · cases hl
  | .cell x t :: r, l, hl => by
    simp only [ress] at hl
    split at hl
    · rename_i b sz i off l' hv hr
      split at hl
      · rename_i cs ty hb
        split at hl
        · rename_i v hp
          simp only [Option.some.injEq] at hl
          subst hl
          have ih := ress_run h hr
          obtain ⟨k, hk, _, hw⟩ := h.mem.blk b _ hb
          have := partPV_load (w := w) (k := k) (q0 := 0) (E := E) hp (fun j v hj => by
            simp only [World.cell?, hw, Nat.zero_add]
            simpa using hj)
          rw [List.mapM_cons, Sem.run_bind]
          have e1 : (asAddr (a.tmps.getD x undef)).run P w = .ok ⟨k, 0 + (i * sz + off), none⟩ w := by
            rw [h.tmps x _ hv]
            simp only [PV.emb, hk, Option.getD_some, asAddr, Sem.run_pure]
          simp only [Sem.run_bind, e1, Result.andThen_ok, this, ih, Sem.run_pure, List.map_cons]
        · cases hl
      · cases hl
    · cases hl
theorem results_run {E : Env} {s : St} {a : Act} {w : World} {fn : Func} {v : PV} (h : Rel tid I B w0 nt E0 m0 E s a w) (hv : resOf P fn s = some v) : (results fn a.tmps).run P w = .ok (v.emb E) w := by
  have key : ∀ l, ress P s fn.results.toList = some l → (results fn a.tmps).run P w = .ok (if h : (l.map (PV.emb E)).toArray.size = 1 then (l.map (PV.emb E)).toArray[0] else .tuple (l.map (PV.emb E)).toArray) w := by
    intro l hl
    have h1 := ress_run h hl
    unfold results
    rw [← Array.toArray_toList (xs := fn.results), List.mapM_toArray, Sem.run_bind, Sem.run_map]
    erw [h1]
    rfl
  unfold resOf at hv
  split at hv
  · rename_i u hu
    simp only [Option.some.injEq] at hv
    subst hv
    rw [key _ hu]; simp
  · rename_i l hn hl
    simp only [Option.some.injEq] at hv
    subst hv
    rw [key _ hl]
    have : (l.map (PV.emb E)).toArray.size ≠ 1 := by
      intro e
      match l, hn with
      | [x], hn => exact hn x rfl
      | [], _ => simp at e
      | _ :: _ :: _, _ => simp at e
    rw [dif_neg this]
    simp [PV.emb, embs_map]
  · cases hv
/-- A function, walked. -/
theorem func_ok {D : Nat → Doer} {M lb : List Nat} {Ls : List LSpec} (hm : P.follows .mixedOrders = true) (hD : ∀ k, DoerOk P tid I (D k)) (hl : ∀ k, (D k).Local) {f : FuncId} {fn : Func} {args : List PV} {m : Nat → Option Blk} {E : Env} {w : World} {Φ : PV × St → Prop} (hf : P.funcs[f]? = some fn) (ha : args.length ≤ fn.ntmps)
    (hn : ∀ v ∈ args, ∀ n ∈ v.names, (m n).isSome = true) (hB : B ≤ w.heap.size) (hM : MemRel tid B E m w) (hI : I.p B w) (hMm : ∀ b, (m b).isSome = true → b ∈ M) (hlb : ∀ n ∈ lb, (m n).isSome = true) (h : (evFunc P D fn Ls M lb args m).holds Φ) :
    Calls P f (args.map (PV.emb E)).toArray w fun e w' => ∃ v s E' a', e = .returned (v.emb E') ∧ Φ (v, s) ∧ Rel tid I B w fn.ntmps E m E' s a' w' ∧ ∀ n ∈ lb, s.mem n = m n := by
  unfold evFunc at h
  cases hb : fn.body with
  | none => rw [hb] at h; exact h.elim
  | some c =>
    rw [hb] at h
    simp only [Tr.holds_bind] at h
    refine calls_of_wp hf hb (code_ok (B := B) (w0 := w) (E0 := E) (m0 := m) hm hD hl hMm c 0 Ls [] lb _ _ _ w _ (fun _ h => by cases h) hlb h ?_ ?_)
    · refine ⟨E, rfl, by simp; omega, fun t v hv => ?_, fun t v hv => ?_, fun t v hv n hn' => ?_, hM, .refl _ _, hB, hI, .refl _ _, fun _ h => h, .refl _ _ _⟩
      · simp only [initSt] at hv
        have := (List.getElem?_eq_some_iff.1 hv).1
        rw [Array.getD_eq_getD_getElem?, Array.getElem?_append_left (by simpa using this)]
        simp [hv]
      · simp only [initSt] at hv
        have := (List.getElem?_eq_some_iff.1 hv).1
        omega
      · simp only [initSt] at hv
        exact hn v (List.mem_of_getElem? hv) n hn'
    · intro e s' a' w' hp ⟨E', hr⟩ hkp
      have fin : ∀ v, resOf P fn s' = some v → Φ (v, s') → a'.defers = [] ∧ ∃ v, (results fn a'.tmps).run P w' = .ok v w' ∧ ∃ u s E' a', Ending.returned v = .returned (u.emb E') ∧ Φ (u, s) ∧ Rel tid I B w fn.ntmps E m E' s a' w' ∧ ∀ n ∈ lb, s.mem n = m n :=
        fun v hv hΦ => ⟨hr.defers, v.emb E', results_run hr hv, v, s', E', a', rfl, hΦ, hr, hkp.2⟩
      cases e with
      | exit id => exact hp.elim
      | normal =>
        simp only at hp
        split at hp
        · exact fin _ ‹_› hp
        · exact hp.elim
      | ret =>
        simp only at hp
        split at hp
        · exact fin _ ‹_› hp
        · exact hp.elim
end
/-- A function that only computes. -/
def Pure1 (G : List PV → Tr PV) : Nat → List PV → (Nat → Option Blk) → Tr Out := fun _ args _ => (G args).bind putT
/-- A call that only computes, whatever the world. -/
def Comp (P : Program) (I : WInv) (f : FuncId) (args : List Value) (v : Value) : Prop := ∀ w : World, I.p w.heap.size w → Calls P f args.toArray w fun e w' => e = .returned v ∧ Below w.heap.size w w'
theorem CallOk.of_comp {P : Program} {tid : ET → TypeId} {I : WInv} {f : FuncId} {G : List PV → Tr PV} (he : Enters P f) (h : ∀ args v, (G args).run = some v → v.names = [] ∧ ∀ E, Comp P I f (args.map (PV.emb E)) (v.emb E)) : CallOk P tid I f (Pure1 G) := by
  refine ⟨he, fun nb B args m R out E w hn hM hB hI hr hf hu hnm hnd => ?_⟩
  obtain ⟨v, hv, rfl⟩ := bind_putT hr
  obtain ⟨h1, h2⟩ := h args v hv
  refine (h2 E w (I.mono _ _ _ hI hB)).mono fun e w' hh => ⟨E, hh.1, .refl _ _, ?_, hh.2.mono hB, Fr.more (.refl _ _) (fun i hi => hh.2.block i hi) [] fun u hu => by cases hu⟩
  refine ⟨fun b k hb => ?_, hM.ok, hM.apart⟩
  by_cases hg : k = .gone
  · subst hg; trivial
  refine (hM.blk b k hb).keep ⟨rfl, rfl, rfl⟩ (fun _ _ => ⟨rfl, rfl, rfl⟩) (fun i f hi => hh.2.block i ?_)
  have hbk := hM.blk b k hb
  cases ho : k.own
  · cases k with
    | cells _ _ => cases ho
    | gone => exact absurd rfl hg
    | row own t l =>
      have ho : own = false := ho
      have hbk : RowOk tid B E w b own t l := hbk
      unfold RowOk at hbk
      rw [hi] at hbk
      exact Nat.lt_of_lt_of_le (hbk.2.2.2.1 ho) hB
  · obtain ⟨_, _, c, t, hh⟩ := own_at hbk ho hi
    exact (Array.getElem?_eq_some_iff.1 hh).1
/-- Out of an evaluation. -/
theorem Comp.of_ev {Ls : List LSpec} {P : Program} {tid : ET → TypeId} {I : WInv} {O : Orc} (hm : P.follows .mixedOrders = true) (hO : OrcOk P tid I O) {f : FuncId} {fn : Func} {args : List PV} {v : PV} (hf : P.funcs[f]? = some fn) (ha : args.length ≤ fn.ntmps) (hn : PV.namess args = []) (hv : v.names = [])
    (h : (evFunc P (mkDoer P O 0) fn Ls [] [] args fun _ => none).holds fun r => r.1 = v) (E : Env) : Comp P I f (args.map (PV.emb E)) (v.emb E) := by
  intro w hI
  refine (func_ok hm (core_ok hO 0) (mkDoer_local P O 0) hf ha (m := fun _ => none) (E := E) (w := w) (fun u hu n hnn => ?_) (Nat.le_refl _) ⟨fun _ _ h => (by cases h), fun _ _ h => (by cases h), fun _ _ _ _ _ _ _ _ _ h => (by cases h)⟩ hI (fun _ h => by cases h) (fun _ h => by cases h) h).mono ?_
  · have : n ∈ PV.namess args := (namess_mem _).2 ⟨u, hu, hnn⟩
    rw [hn] at this; cases this
  · rintro e w' ⟨u, s, E', a', rfl, rfl, hr, _⟩
    exact ⟨by rw [PV.emb_congr (E := E) (E' := E') u (fun n hn => by rw [hv] at hn; cases hn)], hr.below⟩
end Go.Proofs.YtpbklojdmkpkcaaDoor
/- The evaluator: contracts over plain data. -/
namespace Go.Proofs.YtpbklojdmkpkcaaDoor
open Go Go.RowKit
set_option linter.unusedVariables false
set_option linter.unusedSimpArgs false

abbrev Mdl := Nat → List PV → (Nat → Option Blk) → Tr Out
def look {α : Type 1} : List (FuncId × α) → FuncId → Option α
  | [], _ => none
  | (g, M) :: r, f => bif Nat.beq g f then some M else look r f
def mkOrcE (et : TypeId → Option ET) (l : List (FuncId × Mdl)) (x : List (FuncId × (List PV → Tr PV))) : Orc := { call := look l, ext := look x, et := et }
theorem look_mem {α : Type 1} : ∀ {l : List (FuncId × α)} {f : FuncId} {M : α}, look l f = some M → (f, M) ∈ l
  | (g, N) :: r, f, M, h => by
    unfold look at h
    cases hb : Nat.beq g f <;> rw [hb] at h
    · exact List.mem_cons_of_mem _ (look_mem h)
    · have hgf : g = f := Nat.beq_eq ▸ hb
      simp only [cond_true, Option.some.injEq] at h
      subst h; subst hgf; exact List.mem_cons_self
def AllOk (P : Program) (tid : ET → TypeId) (I : WInv) : List (FuncId × Mdl) → Prop
  | [] => True
  | (f, M) :: r => CallOk P tid I f M ∧ AllOk P tid I r
def ExtOk (P : Program) (f : FuncId) (M : List PV → Tr PV) : Prop := ∀ (args : List PV) (v : PV) (E : Env) (w : World), (M args).run = some v → (callFunc f (args.map (PV.emb E)).toArray).run P w = .ok (.value (v.emb E)) w
def AllExt (P : Program) : List (FuncId × (List PV → Tr PV)) → Prop
  | [] => True
  | (f, M) :: r => ExtOk P f M ∧ AllExt P r
theorem AllOk.mem {P : Program} {tid : ET → TypeId} {I : WInv} : ∀ {l : List (FuncId × Mdl)}, AllOk P tid I l → ∀ p ∈ l, CallOk P tid I p.1 p.2
  | q :: r, h, p, hp => by
    rcases List.mem_cons.1 hp with rfl | hp
    · exact h.1
    · exact AllOk.mem h.2 p hp
theorem AllOk.app {P : Program} {tid : ET → TypeId} {I : WInv} : ∀ {l m : List (FuncId × Mdl)}, AllOk P tid I l → AllOk P tid I m → AllOk P tid I (l ++ m)
  | [], _, _, h => h
  | _ :: _, _, h1, h2 => ⟨h1.1, AllOk.app h1.2 h2⟩
theorem AllExt.mem {P : Program} : ∀ {l : List (FuncId × (List PV → Tr PV))}, AllExt P l → ∀ p ∈ l, ExtOk P p.1 p.2
  | q :: r, h, p, hp => by
    rcases List.mem_cons.1 hp with rfl | hp
    · exact h.1
    · exact AllExt.mem h.2 p hp
theorem mkOrcE_ok {P : Program} {tid : ET → TypeId} {I : WInv} {et : TypeId → Option ET} {l : List (FuncId × Mdl)} {x : List (FuncId × (List PV → Tr PV))} (he : ∀ t e, et t = some e → tid e = t) (h : AllOk P tid I l) (hx : AllExt P x) : OrcOk P tid I (mkOrcE et l x) :=
  ⟨he, fun f M hM => AllOk.mem h _ (look_mem hM), fun f M hM => AllExt.mem hx _ (look_mem hM)⟩
/-- An entry: a function, its model, and that it is so. -/
structure Ent (P : Program) (tid : ET → TypeId) (I : WInv) where
  f : FuncId
  M : Mdl
  ok : CallOk P tid I f M
def lookE {P : Program} {tid : ET → TypeId} {I : WInv} : List (Ent P tid I) → FuncId → Option Mdl
  | [], _ => none
  | e :: r, f => bif Nat.beq e.f f then some e.M else lookE r f
def orcE {P : Program} {tid : ET → TypeId} {I : WInv} (et : TypeId → Option ET) (fuel : Nat) (hint : Kn) (l : List (Ent P tid I)) (x : List (FuncId × (List PV → Tr PV))) : Orc := { call := lookE l, ext := look x, et := et, fuel := fuel, hint := hint }
theorem lookE_ok {P : Program} {tid : ET → TypeId} {I : WInv} : ∀ {l : List (Ent P tid I)} {f : FuncId} {M : Mdl}, lookE l f = some M → CallOk P tid I f M
  | e :: r, f, M, h => by
    unfold lookE at h
    cases hb : Nat.beq e.f f <;> rw [hb] at h
    · exact lookE_ok h
    · have hgf : e.f = f := Nat.beq_eq ▸ hb
      simp only [cond_true, Option.some.injEq] at h
      subst h; subst hgf; exact e.ok
theorem orcE_ok {P : Program} {tid : ET → TypeId} {I : WInv} {et : TypeId → Option ET} {fuel : Nat} {hint : Kn} {l : List (Ent P tid I)} {x : List (FuncId × (List PV → Tr PV))} (he : ∀ t e, et t = some e → tid e = t) (hx : AllExt P x) : OrcOk P tid I (orcE et fuel hint l x) :=
  ⟨he, fun f M hM => lookE_ok hM, fun f M hM => AllExt.mem hx _ (look_mem hM)⟩
theorem enters {P : Program} {f : FuncId} {fn : Func} (hf : P.funcs[f]? = some fn) (hn : (fn.name == "runtime.NumGoroutine") = false) (hb : fn.body.isNone = false) : Enters P f := by
  intro args w
  unfold callFunc
  simp only [Sem.run_bind, run_program, Result.andThen_ok, hf, hn, Bool.false_eq_true, if_false, hb, Sem.run_pure]
def evPure (P : Program) (O : Orc) (fn : Func) (Ls : List LSpec) (args : List PV) : Tr PV := (evFunc P (mkDoer P O 0) fn Ls [] [] args fun _ => none).bind fun r => .ret r.1

/-- Whatever it comes to is so: behind a name, so that nothing unfolds it. -/
structure Good {α : Type} (t : Tr α) (Q : α → Prop) : Prop where
  h : t.holds Q
theorem Good.force {α : Type} {t : Tr α} {Q : α → Prop} (h : Good t.force Q) : Good t Q := ⟨Tr.holds_force h.h⟩
theorem Good.of_eq {α : Type} {t u : Tr α} {Q : α → Prop} (e : t = u) (h : u.holds Q) : Good t Q := ⟨e ▸ h⟩
/-- How data are spelled. -/
structure Cod (α : Type) where
  enc : α → PV
  dec : PV → Option α
  names : ∀ a, (enc a).names = []
  ok : ∀ v a, dec v = some a → v = enc a
theorem Cod.emb {α : Type} (A : Cod α) (a : α) (E E' : Env) : (A.enc a).emb E' = (A.enc a).emb E := PV.emb_congr _ fun n hn => by rw [A.names] at hn; cases hn
def decI (k : IntKind) : PV → Option Int
  | .raw (.int k' n) => if k' = k then some n else none
  | _ => none
def cI (k : IntKind) : Cod Int := ⟨fun n => .int k n, decI k, fun _ => rfl, fun v a h => by
  unfold decI at h; split at h
  · split at h
    · rename_i hk; cases h; subst hk; rfl
    · cases h
  · cases h⟩
def decB : PV → Option Bool
  | .raw (.bool b) => some b
  | _ => none
def cB : Cod Bool := ⟨fun b => .raw (.bool b), decB, fun _ => rfl, fun v a h => by
  unfold decB at h; split at h
  · cases h; rfl
  · cases h⟩
def PV.ints : List IntKind → List Int → List PV
  | k :: ks, n :: ns => .int k n :: PV.ints ks ns
  | _, _ => []
theorem ints_raws : ∀ (ks : List IntKind) (ns : List Int), raws (intCells ks ns) = PV.ints ks ns
  | [], _ => rfl
  | _ :: _, [] => rfl
  | k :: ks, n :: ns => by simp only [intCells, PV.ints, raws, List.map_cons]; exact congrArg _ (ints_raws ks ns)
theorem ints_names : ∀ (ks : List IntKind) (ns : List Int), PV.namess (PV.ints ks ns) = []
  | [], _ => rfl
  | _ :: _, [] => rfl
  | k :: ks, n :: ns => by simp only [PV.ints, PV.namess, PV.names, List.nil_append]; exact ints_names ks ns
/-- Structs of whole numbers. -/
def decS {α : Type} (ks : List IntKind) (mk : List Int → Option α) : PV → Option α
  | .agg l => match intsOf ks l with
    | some is => mk is
    | none => none
  | _ => none
def cS {α : Type} (ks : List IntKind) (mk : List Int → Option α) (un : α → List Int) (h : ∀ is a, mk is = some a → is = un a) : Cod α := ⟨fun a => .agg (PV.ints ks (un a)), decS ks mk, fun a => ints_names ks (un a), fun v a hv => by
  unfold decS at hv; split at hv
  · split at hv
    · rename_i is hi
      rw [intsOf_cells hi, ints_raws, h _ _ hv]
    · cases hv
  · cases hv⟩
def unFx (x : Fx) : List Int := [x.h, x.l]
theorem mkFx_un : ∀ is a, mkFx is = some a → is = unFx a := by
  intro is a h; unfold mkFx at h; split at h
  · cases h; rfl
  · cases h
def cFx : Cod Fx := cS [.i64, .u64] mkFx unFx mkFx_un
def cTw : Cod Fx := cS [.u64, .u64] mkFx unFx mkFx_un
def unVc (x : Vc) : List Int := [x.X.h, x.X.l, x.Y.h, x.Y.l]
theorem mkVc_un : ∀ is a, mkVc is = some a → is = unVc a := by
  intro is a h; unfold mkVc at h; split at h
  · cases h; rfl
  · cases h
def cVc : Cod Vc := cS [.i64, .u64, .i64, .u64] mkVc unVc mkVc_un
def cFo : Cod Vc := cS [.u64, .u64, .u64, .u64] mkVc unVc mkVc_un

/-- Contracts of functions of one, two, .. arguments. -/
def G1 {α γ : Type} (A : Cod α) (e : γ → PV) (pre : α → Prop) [∀ a, Decidable (pre a)] (g : α → γ) : List PV → Tr PV
  | [x] => match A.dec x with
    | some a => .chk (decide (pre a)) (.ret (e (g a)))
    | none => .bad 80
  | _ => .bad 80
def G2 {α β γ : Type} (A : Cod α) (B : Cod β) (e : γ → PV) (pre : α → β → Prop) [∀ a b, Decidable (pre a b)] (g : α → β → γ) : List PV → Tr PV
  | [x, y] => match A.dec x, B.dec y with
    | some a, some b => .chk (decide (pre a b)) (.ret (e (g a b)))
    | _, _ => .bad 81
  | _ => .bad 81
def G3 {α β γ δ : Type} (A : Cod α) (B : Cod β) (C : Cod γ) (e : δ → PV) (pre : α → β → γ → Prop) [∀ a b c, Decidable (pre a b c)] (g : α → β → γ → δ) : List PV → Tr PV
  | [x, y, z] => match A.dec x, B.dec y, C.dec z with
    | some a, some b, some c => .chk (decide (pre a b c)) (.ret (e (g a b c)))
    | _, _, _ => .bad 82
  | _ => .bad 82
def G0 {γ : Type} (e : γ → PV) (g : γ) : List PV → Tr PV
  | [] => .ret (e g)
  | _ => .bad 79
/-- All results are spelled without names. -/
class Bare {γ : Type} (e : γ → PV) : Prop where
  h : ∀ c, (e c).names = []
instance {α : Type} (A : Cod α) : Bare A.enc := ⟨A.names⟩
def PV.two {α β : Type} (A : Cod α) (B : Cod β) (x : α × β) : PV := .tup [A.enc x.1, B.enc x.2]
instance {α β : Type} (A : Cod α) (B : Cod β) : Bare (PV.two A B) := ⟨fun c => by simp [PV.two, PV.names, PV.namess, A.names, B.names]⟩
section
variable {P : Program} {tid : ET → TypeId} {I : WInv} {f : FuncId} {α β γ δ : Type} {A : Cod α} {B : Cod β} {C : Cod γ}
def C1 (P : Program) (I : WInv) (f : FuncId) (A : Cod α) (e : γ → PV) (pre : α → Prop) (g : α → γ) : Prop := ∀ a, pre a → ∀ E, Comp P I f [(A.enc a).emb E] ((e (g a)).emb E)
def C2 (P : Program) (I : WInv) (f : FuncId) (A : Cod α) (B : Cod β) (e : γ → PV) (pre : α → β → Prop) (g : α → β → γ) : Prop := ∀ a b, pre a b → ∀ E, Comp P I f [(A.enc a).emb E, (B.enc b).emb E] ((e (g a b)).emb E)
def C3 (P : Program) (I : WInv) (f : FuncId) (A : Cod α) (B : Cod β) (C : Cod γ) (e : δ → PV) (pre : α → β → γ → Prop) (g : α → β → γ → δ) : Prop :=
  ∀ a b c, pre a b c → ∀ E, Comp P I f [(A.enc a).emb E, (B.enc b).emb E, (C.enc c).emb E] ((e (g a b c)).emb E)
def C0 (P : Program) (I : WInv) (f : FuncId) (e : γ → PV) (g : γ) : Prop := ∀ E, Comp P I f [] ((e g).emb E)
theorem C0.ok {e : γ → PV} [hB : Bare e] {g : γ} (he : Enters P f) (h : C0 P I f e g) : CallOk P tid I f (Pure1 (G0 e g)) := by
  refine .of_comp he fun args v hv => ?_
  unfold G0 at hv
  split at hv
  · cases hv
    exact ⟨hB.h _, fun E => h E⟩
  · cases hv
theorem C1.ok {e : γ → PV} [hB : Bare e] {pre : α → Prop} [∀ a, Decidable (pre a)] {g : α → γ} (he : Enters P f) (h : C1 P I f A e pre g) : CallOk P tid I f (Pure1 (G1 A e pre g)) := by
  refine .of_comp he fun args v hv => ?_
  unfold G1 at hv
  split at hv
  · split at hv
    · rename_i x a ha
      obtain ⟨hp, hv⟩ := run_chk hv
      rw [decide_eq_true_iff] at hp
      cases hv
      exact ⟨hB.h _, fun E => by rw [A.ok _ _ ha]; exact h a hp E⟩
    · cases hv
  · cases hv
theorem C2.ok {e : γ → PV} [hB : Bare e] {pre : α → β → Prop} [∀ a b, Decidable (pre a b)] {g : α → β → γ} (he : Enters P f) (h : C2 P I f A B e pre g) : CallOk P tid I f (Pure1 (G2 A B e pre g)) := by
  refine .of_comp he fun args v hv => ?_
  unfold G2 at hv
  split at hv
  · split at hv
    · rename_i x y a b ha hb
      obtain ⟨hp, hv⟩ := run_chk hv
      rw [decide_eq_true_iff] at hp
      cases hv
      exact ⟨hB.h _, fun E => by rw [A.ok _ _ ha, B.ok _ _ hb]; exact h a b hp E⟩
    · cases hv
  · cases hv
theorem C3.ok {e : δ → PV} [hB : Bare e] {pre : α → β → γ → Prop} [∀ a b c, Decidable (pre a b c)] {g : α → β → γ → δ} (he : Enters P f) (h : C3 P I f A B C e pre g) : CallOk P tid I f (Pure1 (G3 A B C e pre g)) := by
  refine .of_comp he fun args v hv => ?_
  unfold G3 at hv
  split at hv
  · split at hv
    · rename_i x y z a b c ha hb hc
      obtain ⟨hp, hv⟩ := run_chk hv
      rw [decide_eq_true_iff] at hp
      cases hv
      exact ⟨hB.h _, fun E => by rw [A.ok _ _ ha, B.ok _ _ hb, C.ok _ _ hc]; exact h a b c hp E⟩
    · cases hv
  · cases hv
variable {O : Orc} {fn : Func}
theorem C0.ev (Ls : List LSpec) {e : γ → PV} [hB : Bare e] {g : γ} (hm : P.follows .mixedOrders = true) (hO : OrcOk P tid I O) (hf : P.funcs[f]? = some fn) (h : Good (evPure P O fn Ls []) fun r => r = e g) : C0 P I f e g :=
  fun E => Comp.of_ev (args := []) hm hO hf (Nat.zero_le _) rfl (hB.h _) (by have := h.h; unfold evPure at this; rwa [Tr.holds_bind] at this) E
theorem C1.ev (Ls : α → List LSpec) {e : γ → PV} [hB : Bare e] {pre : α → Prop} {g : α → γ} (hm : P.follows .mixedOrders = true) (hO : OrcOk P tid I O) (hf : P.funcs[f]? = some fn) (hn : 1 ≤ fn.ntmps) (h : ∀ a, pre a → Good (evPure P O fn (Ls a) [A.enc a]) fun r => r = e (g a)) : C1 P I f A e pre g :=
  fun a hp E => Comp.of_ev (args := [A.enc a]) hm hO hf hn (by simp [PV.namess, A.names]) (hB.h _) (by have := (h a hp).h; unfold evPure at this; rwa [Tr.holds_bind] at this) E
theorem C2.ev (Ls : α → β → List LSpec) {e : γ → PV} [hB : Bare e] {pre : α → β → Prop} {g : α → β → γ} (hm : P.follows .mixedOrders = true) (hO : OrcOk P tid I O) (hf : P.funcs[f]? = some fn) (hn : 2 ≤ fn.ntmps) (h : ∀ a b, pre a b → Good (evPure P O fn (Ls a b) [A.enc a, B.enc b]) fun r => r = e (g a b)) : C2 P I f A B e pre g :=
  fun a b hp E => Comp.of_ev (args := [A.enc a, B.enc b]) hm hO hf hn (by simp [PV.namess, A.names, B.names]) (hB.h _) (by have := (h a b hp).h; unfold evPure at this; rwa [Tr.holds_bind] at this) E
theorem C3.ev (Ls : α → β → γ → List LSpec) {e : δ → PV} [hB : Bare e] {pre : α → β → γ → Prop} {g : α → β → γ → δ} (hm : P.follows .mixedOrders = true) (hO : OrcOk P tid I O) (hf : P.funcs[f]? = some fn) (hn : 3 ≤ fn.ntmps) (h : ∀ a b c, pre a b c → Good (evPure P O fn (Ls a b c) [A.enc a, B.enc b, C.enc c]) fun r => r = e (g a b c)) :
    C3 P I f A B C e pre g :=
  fun a b c hp E => Comp.of_ev (args := [A.enc a, B.enc b, C.enc c]) hm hO hf hn (by simp [PV.namess, A.names, B.names, C.names]) (hB.h _) (by have := (h a b c hp).h; unfold evPure at this; rwa [Tr.holds_bind] at this) E
def e0 {e : γ → PV} [Bare e] {g : γ} (h : C0 P I f e g) (hf : P.funcs[f]? = some fn) (hn : (fn.name == "runtime.NumGoroutine") = false := by rfl) (hb : fn.body.isNone = false := by rfl) : Ent P tid I := ⟨f, Pure1 (G0 e g), h.ok (enters hf hn hb)⟩
def e1 {e : γ → PV} [Bare e] {pre : α → Prop} [∀ a, Decidable (pre a)] {g : α → γ} (h : C1 P I f A e pre g) (hf : P.funcs[f]? = some fn) (hn : (fn.name == "runtime.NumGoroutine") = false := by rfl) (hb : fn.body.isNone = false := by rfl) : Ent P tid I := ⟨f, Pure1 (G1 A e pre g), h.ok (enters hf hn hb)⟩
def e2 {e : γ → PV} [Bare e] {pre : α → β → Prop} [∀ a b, Decidable (pre a b)] {g : α → β → γ} (h : C2 P I f A B e pre g) (hf : P.funcs[f]? = some fn) (hn : (fn.name == "runtime.NumGoroutine") = false := by rfl) (hb : fn.body.isNone = false := by rfl) : Ent P tid I := ⟨f, Pure1 (G2 A B e pre g), h.ok (enters hf hn hb)⟩
def e3 {e : δ → PV} [Bare e] {pre : α → β → γ → Prop} [∀ a b c, Decidable (pre a b c)] {g : α → β → γ → δ} (h : C3 P I f A B C e pre g) (hf : P.funcs[f]? = some fn) (hn : (fn.name == "runtime.NumGoroutine") = false := by rfl) (hb : fn.body.isNone = false := by rfl) : Ent P tid I := ⟨f, Pure1 (G3 A B C e pre g), h.ok (enters hf hn hb)⟩
end
end Go.Proofs.YtpbklojdmkpkcaaDoor
