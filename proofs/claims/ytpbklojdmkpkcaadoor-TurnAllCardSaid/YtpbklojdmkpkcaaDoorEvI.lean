/- The evaluator: all operations. -/
import Derived.Test.YtpbklojdmkpkcaaDoorEvK
namespace Go.Proofs.YtpbklojdmkpkcaaDoor
open Go Go.RowKit
set_option linter.unusedVariables false
set_option linter.unusedSimpArgs false

/-- A function with a body that is called is entered. -/
def Enters (P : Program) (f : FuncId) : Prop := ∀ args w, (callFunc f args).run P w = .ok (.enter f args) w
/-- What is told of a call is so. -/
def CallOk (P : Program) (tid : ET → TypeId) (I : WInv) (f : FuncId) (M : Nat → List PV → (Nat → Option Blk) → Tr Out) : Prop := Enters P f ∧
  ∀ (nb B : Nat) (args : List PV) (m : Nat → Option Blk) (R : List Nat) (out : Out) (E : Env) (w : World), (∀ v ∈ args, ∀ n ∈ v.names, (m n).isSome = true) → MemRel tid B E m w → B ≤ w.heap.size → I.p B w →
    (M nb args (restr m R)).run = some out → (∀ b ∈ out.news.map (·.1), m b = none) → (∀ u ∈ out.ups, (m u.1).isSome = true) → (∀ n ∈ out.put.names ++ (out.news ++ out.ups).flatMap (·.2.names), (m n).isSome = true ∨ n ∈ out.news.map (·.1)) →
    (out.news.map (·.1)).Nodup →
    Calls P f (args.map (PV.emb E)).toArray w fun e w' => ∃ E', e = .returned (out.put.emb E') ∧ Agree E E' m ∧ MemRel tid B E' (upds m (out.news ++ out.ups)) w' ∧ Below B w w' ∧ Fr m E w (upds m (out.news ++ out.ups)) E' w'
structure OrcOk (P : Program) (tid : ET → TypeId) (I : WInv) (O : Orc) : Prop where
  et : ∀ t e, O.et t = some e → tid e = t
  call : ∀ f M, O.call f = some M → CallOk P tid I f M
  ext : ∀ f M, O.ext f = some M → ∀ (args : List PV) (v : PV) (E : Env) (w : World), (M args).run = some v → (callFunc f (args.map (PV.emb E)).toArray).run P w = .ok (.value (v.emb E)) w

section
variable {P : Program} {tid : ET → TypeId} {B : Nat} {E E' : Env} {m : Nat → Option Blk} {w w' : World} {o : Oper} {a : Act} {K : Act → World → Prop} {Q : Exit → Act → World → Prop} {vals : List PV} {out : Out}
theorem one1_run {k : PV → Tr Out} (h : (one1 vals k).run = some out) : ∃ v, vals = [v] ∧ (k v).run = some out := by
  match vals, h with
  | [v], h => exact ⟨v, rfl, h⟩
theorem two2_run {k : PV → PV → Tr Out} (h : (two2 vals k).run = some out) : ∃ v u, vals = [v, u] ∧ (k v u).run = some out := by
  match vals, h with
  | [v, u], h => exact ⟨v, u, rfl, h⟩
theorem wp_val {v : Value} (h : (execOp a.eval o).run P w = .ok (.value v) w') (hK : K (a.put o.dst v) w') : o.wp P a w K Q := by unfold Oper.wp; rw [h]; exact hK
theorem fieldAddr_run {t : TypeId} {i : Nat} {v u : PV} (h : (coreFieldAddr P t i v).run = some u) : (Instr.fieldAt t (v.emb E) i).run P w = .ok (u.emb E) w := by
  unfold coreFieldAddr at h
  split at h
  · rename_i b sz j off f hf
    split at h
    · rename_i ti hti
      cases hz : Nat.beq ti.size 0 <;> rw [hz] at h
      · simp only [cond_false, run_ret, Option.some.injEq] at h
        subst h
        have hz' : ti.size ≠ 0 := fun e => by rw [e] at hz; cases hz
        unfold fieldOf at hf
        split at hf
        · rename_i fs hu
          simp only [Instr.fieldAt, Sem.run_bind, run_underlying hu, Result.andThen_ok, hf, PV.emb, Instr.sureAddr, Sem.run_pure, fieldPlace, sizeOf, typeInfo, run_program, hti, if_neg hz', addr_add]
          rw [show j * sz + (off + f.offset) = j * sz + off + f.offset from by omega, Nat.add_assoc]
        · cases hf
      · cases h
    · cases h
  · cases h
theorem field_run {t : TypeId} {i : Nat} {v u : PV} (h : (coreField P t i v).run = some u) : (Instr.field t (v.emb E) i).run P w = .ok (u.emb E) w := by
  unfold coreField at h
  split at h
  · rename_i l f hf
    rw [run_optT] at h
    unfold fieldOf at hf
    split at hf
    · rename_i fs hu
      simp only [Instr.field, Sem.run_bind, run_underlying hu, Result.andThen_ok, hf, PV.emb, asAgg, Sem.run_pure, partPV_part h]
    · cases hf
  · cases h
theorem extract_run {i : Nat} {v u : PV} (h : (coreExtract i v).run = some u) : (Instr.extract (v.emb E) i).run P w = .ok (u.emb E) w := by
  unfold coreExtract at h
  split at h
  · rename_i l
    rw [run_optT] at h
    have : (PV.embs E l).toArray[i]? = some (u.emb E) := by rw [List.getElem?_toArray, embs_get, h]; rfl
    simp [Instr.extract, PV.emb, this]
  · cases h
theorem un_run {op : UnOp} {v u : PV} (h : (coreUn P op v).run = some u) : (Op.unary op (v.emb E)).run P w = .ok (u.emb E) w := by
  unfold coreUn at h
  split at h
  · split at h
    · rename_i x hx
      simp only [run_ret, Option.some.injEq] at h
      subst h
      exact pureRun_run hx
    · cases h
  · cases h
theorem convert_run {s d : TypeId} {v u : PV} (h : (coreConvert P s d v).run = some u) : (convert s d (v.emb E)).run P w = .ok (u.emb E) w := by
  unfold coreConvert at h
  split at h
  · split at h
    · rename_i x hx
      simp only [run_ret, Option.some.injEq] at h
      subst h
      exact pureRun_run hx
    · cases h
  · cases h
theorem eqFs_run {eq : TypeId → PV → PV → Option Bool} {D : Nat} (he : ∀ t x y r, eq t x y = some r → (Op.equalIn D t (x.emb E) (y.emb E)).run P w = .ok r w) {xs ys : List PV} : ∀ (fs : List Field) (r : Bool), eqFs P eq xs ys fs = some r →
    (Op.eqFields D (PV.embs E xs).toArray (PV.embs E ys).toArray fs).run P w = .ok r w
  | [], r, h => by simp only [eqFs, Option.some.injEq] at h; subst h; simp [Op.eqFields]
  | f :: fs, r, h => by
    unfold eqFs at h
    cases hn : (f.name == "_") <;> rw [hn] at h
    · simp only [cond_false] at h
      split at h
      · rename_i a b ha hb
        split at h
        · rename_i r1 s1 h1 h2
          simp only [Option.some.injEq] at h
          subst h
          have hn' : f.name ≠ "_" := by simpa using hn
          have ih := eqFs_run he fs s1 h2
          simp only [Op.eqFields, if_pos hn', Sem.run_bind, partPV_part ha, partPV_part hb, he _ _ _ _ h1, Result.andThen_ok]
          cases r1
          · simp
          · simpa using ih
        · cases h
      · cases h
    · cases h
theorem eqB_run : ∀ (n : Nat) {t : TypeId} {x y : PV} {r : Bool}, eqB P n t x y = some r → ∀ d, (Op.equalIn (d + n) t (x.emb E) (y.emb E)).run P w = .ok r w
  | 0, t, x, y, r, h, d => by simp [eqB] at h
  | n + 1, t, x, y, r, h, d => by
    unfold eqB at h
    split at h
    · rename_i hu
      simp only [Option.some.injEq] at h
      subst h
      show (Op.equalIn (d + n + 1) t _ _).run P w = _
      simp [Op.equalIn, PV.emb, run_underlying hu]
    · rename_i k1 k a k' b hu
      split at h
      · rename_i hk
        subst hk
        simp only [Option.some.injEq] at h
        subst h
        show (Op.equalIn (d + n + 1) t _ _).run P w = _
        simp [Op.equalIn, PV.emb, run_underlying hu]
      · cases h
    · rename_i fs xs ys hu
      cases hs : P.stoodInHeld t <;> rw [hs] at h
      · simp only [cond_false] at h
        have hf : P.fieldsOf t = fs := by simp [Program.fieldsOf, hu]
        show (Op.equalIn (d + n + 1) t _ _).run P w = _
        simp only [PV.emb]
        rw [run_equalIn_struct (P := P) w (d + n) t _ _ (by rw [hf]; exact hu) hs, hf]
        exact eqFs_run (fun t x y r hr => eqB_run n hr d) _ _ h
      · cases h
    · cases h
theorem ints_run {op : BinOp} {k : IntKind} {x y : Int} {u : PV} {t : TypeId} {ox oy : Operand} (hs : op ≠ .shl) (hs' : op ≠ .shr) (h : (coreInts P op k x y).run = some u) :
    ((do eqGuard op t ox oy (.int k x) (.int k y); binOp op t (.int k x) (.int k y)) : Sem Value).run P w = .ok (u.emb E) w := by
  have hg : eqGuard op t ox oy (.int k x) (.int k y) = pure () := by cases op <;> rfl
  rw [hg]
  cases op <;> simp only [coreInts, run_ret, run_bad, Option.some.injEq] at h <;> first
    | (obtain ⟨hy, h⟩ := run_chk h
       simp only [bne_iff_ne] at hy
       simp only [run_ret, Option.some.injEq] at h
       subst h
       simp [binOp, Op.intDiv, hy, PV.emb])
    | (subst h; simp [binOp, Op.intArith, Op.intBits, Op.intCmp, PV.emb])
    | (exact absurd rfl hs)
    | (exact absurd rfl hs')
    | (cases h)
theorem coreEq_run {op : BinOp} {t : TypeId} {x y u : PV} {ox oy : Operand} (he : P.eqGuardType P.depth t = false → ∀ op', (op' = BinOp.eql ∨ op' = BinOp.neq) → (eqGuard op' t ox oy (x.emb E) (y.emb E)).run P w = .ok () w)
    (hb : ∀ op', (op' = BinOp.eql ∨ op' = BinOp.neq) → binOp op' t (x.emb E) (y.emb E) = ((Op.equal t (x.emb E) (y.emb E) >>= fun r => pure (.bool (match op' with | .eql => r | _ => !r))) : Sem Value)) (h : (coreEq P op t x y).run = some u) :
    ((do eqGuard op t ox oy (x.emb E) (y.emb E); binOp op t (x.emb E) (y.emb E)) : Sem Value).run P w = .ok (u.emb E) w := by
  unfold coreEq at h
  cases hg : P.eqGuardType P.depth t <;> rw [hg] at h
  · simp only [cond_false] at h
    split at h
    · rename_i r hr
      simp only [run_ret, Option.some.injEq] at h
      subst h
      have := eqB_run (E := E) (w := w) 8 hr 9992
      simp only [Sem.run_bind, he hg _ (.inl rfl), Result.andThen_ok, hb _ (.inl rfl)]
      simp only [Op.equal, Op.maxDepth, Sem.run_bind, this, Result.andThen_ok, Sem.run_pure]
      rfl
    · rename_i r hr
      simp only [run_ret, Option.some.injEq] at h
      subst h
      have := eqB_run (E := E) (w := w) 8 hr 9992
      simp only [Sem.run_bind, he hg _ (.inr rfl), Result.andThen_ok, hb _ (.inr rfl)]
      simp only [Op.equal, Op.maxDepth, Sem.run_bind, this, Result.andThen_ok, Sem.run_pure]
      rfl
    · cases h
  · cases h
theorem bin_run {op : BinOp} {t : TypeId} {x y u : PV} {ox oy : Operand} (h : (coreBin P op t x y).run = some u) :
    ((do eqGuard op t ox oy (x.emb E) (y.emb E); binOp op t (x.emb E) (y.emb E)) : Sem Value).run P w = .ok (u.emb E) w := by
  unfold coreBin at h
  split at h
  · rename_i k x k' y
    split at h
    · obtain ⟨hy, h⟩ := run_chk h
      rw [decide_eq_true_iff] at hy
      simp only [run_ret, Option.some.injEq] at h
      subst h
      have hg : eqGuard .shl t ox oy (.int k x) (.int k' y) = pure () := rfl
      simp only [PV.emb, hg]
      simp [binOp, Op.shift, Int.not_lt.2 hy]
    · obtain ⟨hy, h⟩ := run_chk h
      rw [decide_eq_true_iff] at hy
      simp only [run_ret, Option.some.injEq] at h
      subst h
      have hg : eqGuard .shr t ox oy (.int k x) (.int k' y) = pure () := rfl
      simp only [PV.emb, hg]
      simp [binOp, Op.shift, Int.not_lt.2 hy]
    · rename_i hs1 hs2
      split at h
      · rename_i hk
        subst hk
        exact ints_run (fun e => hs1 e) (fun e => hs2 e) h
      · cases h
  · rename_i a b
    refine coreEq_run (fun _ op' ho => ?_) (fun op' ho => ?_) h
    · rcases ho with rfl | rfl <;> rfl
    · rcases ho with rfl | rfl <;> rfl
  · rename_i xs ys
    refine coreEq_run (fun hg op' ho => ?_) (fun op' ho => ?_) h
    · rcases ho with rfl | rfl <;> simp [eqGuard, PV.emb, hg]
    · rcases ho with rfl | rfl <;> rfl
  · rename_i b sz
    have he : ∃ a l c, (PV.sl b sz).emb E = .slice a l c ∧ a.isNone = (E.at_ b).isNone := by
      simp only [PV.emb]
      cases hk : E.at_ b with
      | none => exact ⟨none, 0, 0, rfl, rfl⟩
      | some q => exact ⟨_, _, _, rfl, rfl⟩
    obtain ⟨a, l, c, he, hn⟩ := he
    split at h
    · rename_i e hu
      simp only [run_ret, Option.some.injEq] at h
      subst h
      rw [he]
      have hg : eqGuard .eql t ox oy (.slice a l c) (.slice none 0 0) = pure () := rfl
      have e2 : PV.emb E (.raw (.slice none 0 0)) = .slice none 0 0 := rfl
      simp only [e2, hg, Sem.run_bind, Sem.run_pure, Result.andThen_ok, Go.run_eql_slice_nil w t e a l c hu, PV.emb, hn]
      cases (E.at_ b).isNone <;> rfl
    · rename_i e hu
      simp only [run_ret, Option.some.injEq] at h
      subst h
      rw [he]
      have hg : eqGuard .neq t ox oy (.slice a l c) (.slice none 0 0) = pure () := rfl
      have e2 : PV.emb E (.raw (.slice none 0 0)) = .slice none 0 0 := rfl
      simp only [e2, hg, Sem.run_bind, Sem.run_pure, Result.andThen_ok, Go.run_neq_slice_nil w t e a l c hu, PV.emb, hn]
      cases (E.at_ b).isNone <;> rfl
    · cases h
  · cases h
theorem pick_run {u : PV} {c x y : Operand} (hv : [c, x, y].map a.eval = vals.map (PV.emb E)) (h : (corePick vals).run = some u) : ((do pure (Next.value (if ← asBool (a.eval c) then a.eval x else a.eval y))) : Sem Next).run P w = .ok (.value (u.emb E)) w := by
  unfold corePick at h
  split at h
  · rename_i b1 b2 b3
    simp only [run_ret, Option.some.injEq] at h
    subst h
    simp only [List.map_cons, List.map_nil, List.cons.injEq, and_true] at hv
    obtain ⟨h1, h2, h3⟩ := hv
    rw [h1, h2, h3]
    cases b1 <;> simp [asBool, PV.emb]
  · rename_i b1 x y hn
    simp only [List.map_cons, List.map_nil, List.cons.injEq, and_true] at hv
    obtain ⟨h1, h2, h3⟩ := hv
    rw [h1, h2, h3]
    cases b1 <;> simp only [cond_true, cond_false, run_ret, Option.some.injEq] at h <;> subst h <;> simp [asBool, PV.emb]
  · cases h
theorem indexAddr_run {t : TypeId} {R : List Nat} {v u r : PV} (hM : MemRel tid B E m w) (h : (coreIndexAddr P t (restr m R) v u).run = some r) : (Instr.indexAt t (v.emb E) (u.emb E)).run P w = .ok (r.emb E) w := by
  unfold coreIndexAddr at h
  split at h
  · rename_i b sz k i e hu
    split at h
    · rename_i own et l ei hb hei
      cases hz : (Nat.beq ei.size sz && Nat.beq sz et.size) <;> rw [hz] at h
      · cases h
      · rw [Bool.and_eq_true] at hz
        have h1 : ei.size = sz := Nat.beq_eq ▸ hz.1
        simp only [cond_true] at h
        obtain ⟨hi, h⟩ := run_chk h
        rw [Bool.and_eq_true, decide_eq_true_iff, decide_eq_true_iff] at hi
        simp only [run_ret, Option.some.injEq] at h
        subst h
        have hrow : RowOk tid B E w b own et l := hM.blk b _ (restr_sub hb)
        unfold RowOk at hrow
        split at hrow
        · subst hrow; simp at hi; omega
        · rename_i kk f hk
          have hlen := hrow.1
          simp only [Instr.indexAt, PV.emb, hk, Sem.run_bind, run_underlying hu, Result.andThen_ok, asIntOf, Sem.run_pure, Sem.run_ite, Option.getD_some]
          rw [if_pos (by rw [← hlen]; exact hi)]
          simp only [sizeOf, typeInfo, Sem.run_bind, run_program, Result.andThen_ok, hei, Sem.run_pure, addr_add, h1, Nat.add_zero]
    · cases h
  · rename_i b sz j off k i n e hu
    split at h
    · rename_i ei hei
      cases hz : (Nat.beq sz 0 && !Nat.beq ei.size 0) <;> rw [hz] at h
      · cases h
      · rw [Bool.and_eq_true] at hz
        have h1 : sz = 0 := Nat.beq_eq ▸ hz.1
        subst h1
        simp only [cond_true] at h
        obtain ⟨hi, h⟩ := run_chk h
        rw [Bool.and_eq_true, decide_eq_true_iff, decide_eq_true_iff] at hi
        simp only [run_ret, Option.some.injEq] at h
        subst h
        simp only [Instr.indexAt, PV.emb, Sem.run_bind, run_underlying hu, Result.andThen_ok, asIntOf, Sem.run_pure, Instr.sureAddr]
        rw [if_pos hi]
        simp only [sizeOf, typeInfo, Sem.run_bind, run_program, Result.andThen_ok, hei, Sem.run_pure, addr_add, Nat.mul_zero, Nat.zero_add]
        rw [show ((E.at_ b).getD (0, 0)).snd + off + i.toNat * ei.size = ((E.at_ b).getD (0, 0)).snd + (i.toNat * ei.size + off) from by omega]
    · cases h
  · cases h
theorem index_run {t : TypeId} {v u r : PV} (h : (coreIndex P t v u).run = some r) : (Instr.index t (v.emb E) (u.emb E)).run P w = .ok (r.emb E) w := by
  unfold coreIndex at h
  split at h
  · rename_i l k i n e hu
    split at h
    · rename_i ei hei
      obtain ⟨hi, h⟩ := run_chk h
      rw [Bool.and_eq_true, decide_eq_true_iff, decide_eq_true_iff] at hi
      have := partPV_part (E := E) (w := w) (arrPV_run h)
      simp only [Instr.index, PV.emb, Sem.run_bind, run_underlying hu, Result.andThen_ok, asIntOf, Sem.run_pure]
      rw [if_pos hi]
      simp only [sizeOf, typeInfo, Sem.run_bind, run_program, Result.andThen_ok, hei, Sem.run_pure]
      exact this
    · cases h
  · cases h
theorem builtin_run {b : Builtin} {ts : Array TypeId} {ty : TypeId} {cs : Array Bool} {R : List Nat} {u : PV} (hM : MemRel tid B E m w) (h : (coreBuiltin P b ts vals (restr m R)).run = some u) :
    (builtin b ts ty cs (vals.map (PV.emb E)).toArray).run P w = .ok (.value (u.emb E)) w := by
  unfold coreBuiltin at h
  split at h
  · split at h
    · rename_i b sz e hu
      split at h
      · rename_i own et l hb
        simp only [run_ret, Option.some.injEq] at h
        subst h
        obtain ⟨t, ht, hu⟩ := Option.bind_eq_some_iff.1 hu
        have hrow : RowOk tid B E w b own et l := hM.blk b _ (restr_sub hb)
        unfold RowOk at hrow
        split at hrow
        · rename_i hk
          subst hrow
          simp [builtin, Builtin.len_, ht, PV.emb, hk, run_underlying hu, goInt]
        · rename_i kk f hk
          have hlen := hrow.1
          simp [builtin, Builtin.len_, ht, PV.emb, hk, run_underlying hu, goInt, hlen]
      · cases h
    · rename_i e hu
      simp only [run_ret, Option.some.injEq] at h
      subst h
      obtain ⟨t, ht, hu⟩ := Option.bind_eq_some_iff.1 hu
      simp [builtin, Builtin.len_, ht, PV.emb, run_underlying hu, goInt]
    · cases h
  · split at h
    · simp only [run_ret, Option.some.injEq] at h
      subst h
      simp [builtin, Builtin.max_, PV.emb, Builtin.max2]
    · cases h
  · split at h
    · simp only [run_ret, Option.some.injEq] at h
      subst h
      simp [builtin, Builtin.min_, PV.emb, Builtin.min2]
    · cases h
  · cases h
theorem call_run {g : FuncId} {c : Call} {ty : TypeId} {caps args : Array Value} {f : Operand} (hc : c.callee = .value f) (hf : a.eval f = .func (.func g) #[] caps) (ha : c.args.map a.eval = args) :
    ((do let d ← resolve a.eval c ty; invoke d.target d.args) : Sem Next).run P w = (callFunc g (args ++ caps)).run P w := by
  unfold resolve
  rw [hc]
  simp only [hf, ha, Deferred.ofValue, Sem.run_bind, Sem.run_pure, Result.andThen_ok, invoke, Array.empty_append]
theorem placesOf_run : ∀ {fs : List Field} {pl : List (Nat × Nat)}, placesOf P fs = some pl → (fs.mapM fun f => do pure (f.offset, ← sizeOf f.type) : Sem (List (Nat × Nat))).run P w = .ok pl w
  | [], pl, h => by simp only [placesOf, Option.some.injEq] at h; subst h; rfl
  | f :: r, pl, h => by
    unfold placesOf at h
    split at h
    · rename_i i l hi hl
      simp only [Option.some.injEq] at h
      subst h
      have ih := placesOf_run hl
      rw [List.mapM_cons]
      simp only [Sem.run_bind, sizeOf, typeInfo, run_program, Result.andThen_ok, hi, Sem.run_pure]
      simp only [sizeOf, typeInfo] at ih
      rw [ih]; rfl
    · cases h
theorem fill_run {pl : List (Nat × Nat)} : ∀ {parts : List (Nat × PV)} {cs r : List PV}, fillPV pl parts cs = some r → Instr.fill (pl.toArray[·]?) (PV.embs E cs).toArray (parts.map fun (i, v) => (i, v.emb E)) = some (PV.embs E r).toArray
  | [], cs, r, h => by simp only [fillPV, Option.some.injEq] at h; subst h; rfl
  | (i, v) :: ps, cs, r, h => by
    unfold fillPV at h
    split at h
    · rename_i off n vs hp hf
      cases hb : (Nat.beq vs.length n && Nat.ble (off + n) cs.length) <;> rw [hb] at h
      · cases h
      · rw [Bool.and_eq_true, Nat.ble_eq] at hb
        have hl : vs.length = n := Nat.beq_eq ▸ hb.1
        simp only [cond_true] at h
        obtain ⟨f1, _⟩ := flat_emb (E := E) hf
        have ih := fill_run h
        have hsz : (PV.embs E vs).length = n := by rw [embs_length, hl]
        simp only [List.map_cons, Instr.fill]
        rw [List.getElem?_toArray, hp]
        simp only [f1, List.size_toArray, hsz, ne_eq, not_true, decide_false, Bool.false_or, embs_length]
        rw [if_neg (by simp; omega)]
        rw [← ih]
        congr 1
        -- cells laid one by one
        have lay : ∀ (us : List Value) (k : Nat) (A : List Value), off + k + us.length ≤ A.length →
            (us.zipIdx k).foldl (fun cs (c, j) => cs.setIfInBounds (off + j) c) A.toArray = (A.take (off + k) ++ us ++ A.drop (off + k + us.length)).toArray := by
          intro us
          induction us with
          | nil => intro k A hA; simp
          | cons u us ih =>
            intro k A hA
            simp only [List.length_cons] at hA
            simp only [List.zipIdx_cons, List.foldl_cons, List.setIfInBounds_toArray]
            rw [ih (k + 1) (A.set (off + k) u) (by simp; omega)]
            congr 1
            have e1 : (A.set (off + k) u).take (off + (k + 1)) = A.take (off + k) ++ [u] := by
              rw [show off + (k + 1) = off + k + 1 from by omega, List.take_succ_eq_append_getElem (by simp; omega), List.take_set_of_le (by omega)]
              simp
            have e2 : (A.set (off + k) u).drop (off + (k + 1) + us.length) = A.drop (off + k + (u :: us).length) := by
              rw [List.drop_set_of_lt (by omega)]; congr 1; simp; omega
            rw [e1, e2]; simp
        have e0 : (PV.embs E vs).toArray.zipIdx.foldl (fun cs (c, j) => cs.setIfInBounds (off + j) c) (PV.embs E cs).toArray = ((PV.embs E vs).zipIdx 0).foldl (fun cs (c, j) => cs.setIfInBounds (off + j) c) (PV.embs E cs).toArray := by
          rw [← Array.foldl_toList, Array.toList_zipIdx]
        have := lay (PV.embs E vs) 0 (PV.embs E cs) (by rw [embs_length, embs_length]; omega)
        refine (e0.trans this).trans ?_
        rw [patch_embs]
        simp [embs_length, hl]
    · cases h
theorem build_run {t : TypeId} {parts : List (Nat × PV)} {u : PV} (h : coreBuild P t parts = some u) : (Instr.build t (parts.map fun (i, v) => (i, v.emb E)).toArray).run P w = .ok (u.emb E) w := by
  unfold coreBuild at h
  split at h
  · rename_i fs z hu hz
    split at h
    · rename_i pl hpl
      obtain ⟨r, hr, rfl⟩ := Option.map_eq_some_iff.1 h
      obtain ⟨i, hi, hz⟩ := Option.bind_eq_some_iff.1 hz
      have h1 := placesOf_run (w := w) hpl
      have h2 := fill_run (E := E) hr
      rw [raws_emb] at h2
      have h3 : (zeroValue t).run P w = .ok z w := by simp [zeroValue, typeInfo, hi, hz]
      simp only [Instr.build, Sem.run_bind, h3, Result.andThen_ok, run_underlying hu]
      rw [← Array.toArray_toList (xs := fs)] 
      rw [List.mapM_toArray]
      simp only [Sem.run_map, h1, Result.andThen_ok]
      simp only [Array.toArray_toList] at h2
      rw [h2]
      simp [PV.emb]
    · cases h
  · cases h
end
theorem upds_nil {α : Type} (m : Nat → Option α) : upds m [] = m := rfl
theorem core_ok' {P : Program} {tid : ET → TypeId} {I : WInv} {O : Orc} (hO : OrcOk P tid I O) (nb : Nat) : DoerOk P tid I { foot := footOf, core := core P O nb, fuel := O.fuel } := by
  intro B o vals m out E a w K Q hv hn hM hB hI hrun hf hups hnm hnd hK
  have hrun : (core P O nb o vals (restr m (footOf o vals m))).run = some out := hrun
  -- what only yields a value
  have value : ∀ v : PV, out = { put := v } → (execOp a.eval o).run P w = .ok (.value (v.emb E)) w → o.wp P a w K Q := by
    intro v hout he
    subst hout
    exact wp_val he (hK E w (.refl _ _) hM (.refl _ _) (.refl _ _ _))
  have value1 : ∀ (t : Tr PV), (t.bind putT).run = some out → (∀ u, t.run = some u → (execOp a.eval o).run P w = .ok (.value (u.emb E)) w) → o.wp P a w K Q := by
    intro t ht h
    obtain ⟨u, hu, hout⟩ := bind_putT ht
    exact value u hout (h u hu)
  -- a block of its own
  have fresh : ∀ (b : Nat) (t : TypeId) (cs : List PV), out = { put := .ptr b 0 0 0, news := [(b, .cells cs t)] } → (∀ n ∈ PV.namess cs, (m n).isSome = true) →
      (execOp a.eval o).run P w = .ok (.value (.pointer (some ⟨w.heap.size, 0, none⟩))) { w with heap := w.heap.push (.cells (PV.embs E cs).toArray t) } → o.wp P a w K Q := by
    intro b t cs hout hcn he
    subst hout
    have hmb : m b = none := hf b (by simp)
    let E' : Env := { E with at_ := fun n => if n = b then some (w.heap.size, 0) else E.at_ n }
    have hA : Agree E E' m := by
      intro n hn
      have : n ≠ b := fun e => by subst e; rw [hmb] at hn; cases hn
      exact ⟨by simp [E', this], rfl, rfl⟩
    have hcs : PV.embs E' cs = PV.embs E cs := PV.embs_congr cs fun n hn => hA n (hcn n hn)
    have hb' : E'.at_ b = some (w.heap.size, 0) := by simp [E']
    have hpush : ∀ i, i < w.heap.size → (w.heap.push (Obj.cells (PV.embs E cs).toArray t))[i]? = w.heap[i]? := fun i hi => by rw [Array.getElem?_push, if_neg (by omega)]
    have hM' := hM.more (E' := E') (w' := { w with heap := w.heap.push (.cells (PV.embs E cs).toArray t) }) hB hA hpush [(b, .cells cs t)] (fun c hc => hf c hc) (fun u hu n hn => hnm n (by simp at hu; subst hu; simp [hn])) (by simp) ?_ ?_
    · have hbel : Below B w { w with heap := w.heap.push (.cells (PV.embs E cs).toArray t) } := ⟨rfl, rfl, rfl, by simp, fun i hi => hpush i (by omega)⟩
      have := hK E' _ hA hM' hbel (Fr.more hA hpush [(b, .cells cs t)] fun u hu _ i f hi => by simp at hu; subst hu; rw [hb'] at hi; cases hi; exact Nat.le_refl _)
      refine wp_val he ?_
      simpa [PV.emb, hb'] using this
    · intro u hu
      simp at hu
      subst hu
      refine ⟨⟨w.heap.size, hb', hB, ?_⟩, fun _ i f hi => ?_⟩
      · rw [hcs]; simp
      · rw [hb'] at hi; cases hi; exact Nat.le_refl _
    · intro u hu v hv' hne
      simp at hu hv'
      subst hu; subst hv'
      exact absurd rfl hne
  unfold core at hrun
  have hexec : execOp a.eval o = execOp a.eval { o with op := o.op } := rfl
  split at hrun
  · rename_i x ho
    obtain ⟨v, rfl, h⟩ := one1_run hrun
    simp only [run_putT, Option.some.injEq] at h
    refine value v h.symm ?_
    rw [ho] at hv
    simp [Op.operands] at hv
    simp [execOp, ho, hv]
  · rename_i x ho
    obtain ⟨v, rfl, h⟩ := one1_run hrun
    simp only [run_putT, Option.some.injEq] at h
    refine value v h.symm ?_
    rw [ho] at hv
    simp [Op.operands] at hv
    simp [execOp, ho, hv]
  · rename_i t ho
    unfold coreAlloc at hrun
    split at hrun
    · rename_i d z hd hz
      simp only [run_ret, Option.some.injEq] at hrun
      subst hrun
      obtain ⟨zv, hzv, rfl⟩ := Option.map_eq_some_iff.1 hz
      obtain ⟨i, hi, hzv⟩ := Option.bind_eq_some_iff.1 hzv
      refine fresh (nb + d) t (raws zv.cells.toList) rfl (fun n hn => by rw [show PV.namess (raws zv.cells.toList) = [] from raws_names _] at hn; cases hn) ?_
      rw [raws_emb]
      simp [execOp, ho, Instr.alloc, zeroValue, typeInfo, hi, hzv, newVar, newRow]
    · cases hrun
  · rename_i t x ho
    obtain ⟨v, rfl, h⟩ := one1_run hrun
    rw [ho] at hv
    simp [Op.operands] at hv
    unfold coreBox at h
    split at h
    · rename_i d cs hd hcs
      simp only [run_ret, Option.some.injEq] at h
      subst h
      refine fresh (nb + d) t cs rfl (fun n hnn => hn v (by simp) n (by rw [← flat_names hcs]; exact hnn)) ?_
      simp [execOp, ho, hv, Instr.box, newVar, newRow, (flat_emb (E := E) hcs).1]
    · cases h
  · rename_i t x ho
    obtain ⟨v, rfl, h⟩ := one1_run hrun
    rw [ho] at hv
    simp [Op.operands] at hv
    refine value1 _ h fun u hu => ?_
    simp [execOp, ho, hv, load_run hM hu]
  · rename_i t x y ho
    obtain ⟨v, u, rfl, h⟩ := two2_run hrun
    rw [ho] at hv
    simp [Op.operands] at hv
    obtain ⟨w', h1, h2, h3, h3', h4, h5⟩ := store_run hM (hn u (by simp)) h
    unfold Oper.wp
    simp only [execOp, ho, hv.1, hv.2, Sem.run_bind, h1, Result.andThen_ok, Sem.run_pure, Oper.upon]
    have := hK E w' (.refl _ _) (by rw [h4]; exact h2) h3 (by rw [h4]; exact h3')
    rw [h5] at this
    exact this
  · rename_i t x i ho
    obtain ⟨v, rfl, h⟩ := one1_run hrun
    rw [ho] at hv
    simp [Op.operands] at hv
    refine value1 _ h fun u hu => ?_
    simp [execOp, ho, hv, fieldAddr_run hu]
  · rename_i t x i ho
    obtain ⟨v, rfl, h⟩ := one1_run hrun
    rw [ho] at hv
    simp [Op.operands] at hv
    refine value1 _ h fun u hu => ?_
    simp [execOp, ho, hv, field_run hu]
  · rename_i x i ho
    obtain ⟨v, rfl, h⟩ := one1_run hrun
    rw [ho] at hv
    simp [Op.operands] at hv
    refine value1 _ h fun u hu => ?_
    simp [execOp, ho, hv, extract_run hu]
  · rename_i t ps ho
    refine value1 _ hrun fun u hu => ?_
    rw [run_optT] at hu
    rw [ho] at hv
    have hv : ps.toList.map (fun p => a.eval p.2) = vals.map (PV.emb E) := by simpa [Op.operands, Function.comp_def] using hv
    have hz : (ps.map fun (i, x) => (i, a.eval x)) = (((ps.toList.map (·.1)).zip vals).map fun (i, v) => (i, v.emb E)).toArray := by
      apply Array.toList_inj.1
      simp only [Array.toList_map]
      have : ∀ (l : List (Nat × Operand)) (vs : List PV), l.map (fun p => a.eval p.2) = vs.map (PV.emb E) → l.map (fun (i, x) => (i, a.eval x)) = ((l.map (·.1)).zip vs).map fun (i, v) => (i, v.emb E) := by
        intro l
        induction l with
        | nil => intro vs h; simp
        | cons p r ih =>
          intro vs h
          cases vs with
          | nil => simp at h
          | cons v vs =>
            simp only [List.map_cons, List.cons.injEq] at h
            simp [h.1, ih vs h.2]
      simpa using this ps.toList vals hv
    have := build_run (E := E) (w := w) hu
    simp only [execOp, ho]
    rw [hz, Sem.run_bind, this]; rfl
  · rename_i op t x ho
    obtain ⟨v, rfl, h⟩ := one1_run hrun
    rw [ho] at hv
    simp [Op.operands] at hv
    refine value1 _ h fun u hu => ?_
    simp [execOp, ho, hv, un_run hu]
  · rename_i s d x ho
    obtain ⟨v, rfl, h⟩ := one1_run hrun
    rw [ho] at hv
    simp [Op.operands] at hv
    refine value1 _ h fun u hu => ?_
    simp [execOp, ho, hv, convert_run hu]
  · rename_i op t x y t' ho
    obtain ⟨v, u, rfl, h⟩ := two2_run hrun
    rw [ho] at hv
    simp [Op.operands] at hv
    refine value1 _ h fun r hr => ?_
    have := bin_run (E := E) (w := w) (ox := x) (oy := y) hr
    simp only [execOp, ho, hv.1, hv.2]
    simp only [Sem.run_bind] at this ⊢
    rw [this]; rfl
  · rename_i c x y ho
    rw [ho] at hv
    refine value1 _ hrun fun r hr => ?_
    have := pick_run (P := P) (w := w) (c := c) (x := x) (y := y) (by simpa [Op.operands] using hv) hr
    simp only [execOp, ho]
    exact this
  · rename_i x ho
    obtain ⟨v, rfl, h⟩ := one1_run hrun
    rw [ho] at hv
    simp [Op.operands] at hv
    refine value1 _ h fun u hu => ?_
    unfold coreNil at hu
    split at hu
    · simp only [run_ret, Option.some.injEq] at hu
      subst hu
      simp [execOp, ho, hv, PV.emb]
    · simp only [run_ret, Option.some.injEq] at hu
      subst hu
      simp [execOp, ho, hv, PV.emb]
    · cases hu
  · rename_i fn first cs ho
    rw [ho] at hv
    unfold coreFunc at hrun
    split at hrun
    · rename_i f
      cases hb : first.isEmpty <;> rw [hb] at hrun
      · cases hrun
      · simp only [cond_true, run_putT, Option.some.injEq] at hrun
        have hb : first = #[] := by simpa using hb
        subst hb
        refine value _ hrun.symm ?_
        have hv : cs.map a.eval = (PV.embs E vals).toArray := by
          apply Array.toList_inj.1
          simpa [Op.operands, embs_map] using hv
        simp [execOp, ho, Instr.makeFunc, hv, PV.emb]
    · cases hrun
  · rename_i t x y ho
    obtain ⟨v, u, rfl, h⟩ := two2_run hrun
    rw [ho] at hv
    simp [Op.operands] at hv
    refine value1 _ h fun r hr => ?_
    simp [execOp, ho, hv.1, hv.2, indexAddr_run hM hr]
  · rename_i t x y ho
    obtain ⟨v, u, rfl, h⟩ := two2_run hrun
    rw [ho] at hv
    simp [Op.operands] at hv
    refine value1 _ h fun r hr => ?_
    simp [execOp, ho, hv.1, hv.2, index_run hr]
  · rename_i t n ps ho
    rw [ho] at hv
    have hv : ps.toList.map (fun p => a.eval p.2) = vals.map (PV.emb E) := by simpa [Op.operands, Function.comp_def] using hv
    obtain ⟨b, et, l, v, w', rfl, hr, hg, hown⟩ := lit_run (E := E) (w := w) hO.et hrun
    have hz : (ps.map fun (i, x) => (i, a.eval x)) = ((ps.toList.map (·.1)).zip (vals.map (PV.emb E))).toArray := by
      apply Array.toList_inj.1
      simp only [Array.toList_map]
      have : ∀ (l : List (Nat × Operand)) (vs : List Value), l.map (fun p => a.eval p.2) = vs → l.map (fun (i, x) => (i, a.eval x)) = (l.map (·.1)).zip vs := by
        intro l
        induction l with
        | nil => intro vs h; simp
        | cons p r ih =>
          intro vs h
          cases vs with
          | nil => simp at h
          | cons v vs =>
            simp only [List.map_cons, List.cons.injEq] at h
            simp [h.1, ih vs h.2]
      simpa using this ps.toList _ hv
    obtain ⟨a1, a2, a3, a4, a5⟩ := hM.made (sz := et.size) hB (hf b (by simp)) hg hown
    refine wp_val (v := v) (w' := w') ?_ ?_
    · simp only [execOp, ho]
      rw [hz, Sem.run_bind, hr]; rfl
    · have := hK _ w' a1 (by simpa using a2) a3 (by simpa using a5)
      rwa [a4] at this
  · rename_i t x y ho
    obtain ⟨v, u, rfl, h⟩ := two2_run hrun
    rw [ho] at hv
    simp [Op.operands] at hv
    obtain ⟨b, et, l, r, w', rfl, hr, hg, hown⟩ := make_run (E := E) (w := w) hO.et h
    obtain ⟨a1, a2, a3, a4, a5⟩ := hM.made (sz := et.size) hB (hf b (by simp)) hg hown
    refine wp_val (v := r) (w' := w') ?_ ?_
    · simp only [execOp, ho, hv.1, hv.2]
      rw [Sem.run_bind, hr]; rfl
    · have := hK _ w' a1 (by simpa using a2) a3 (by simpa using a5)
      rwa [a4] at this
  · rename_i c ho
    rw [ho] at hv
    obtain ⟨callee, args, ts⟩ := c
    cases callee with
    | builtin b =>
      have hva : args.map a.eval = (vals.map (PV.emb E)).toArray := by
        apply Array.toList_inj.1
        simpa [Op.operands, Call.operands] using hv
      by_cases hba : b = .append
      · subst hba
        have hrun : (two2 vals fun v u => coreAppend P O nb o.dst ts.toList v u (restr m (footOf o vals m))).run = some out := hrun
        obtain ⟨v, u, rfl, h⟩ := two2_run hrun
        obtain ⟨r, E', w', hr, e1, a1, a2, a3, a4⟩ := append_run (ty := o.type) hO.et hM hB hf h
        refine wp_val (v := r) (w' := w') ?_ ?_
        · simp only [execOp, ho, resolve, Sem.run_bind, Sem.run_pure, Result.andThen_ok, invoke, hva, builtin, List.map_cons, List.map_nil, hr]
        · rw [e1]; exact hK E' w' a1 a2 a3 a4
      have hrun : ((coreBuiltin P b ts vals (restr m (footOf o vals m))).bind putT).run = some out := by
        cases b <;> first | exact hrun | exact absurd rfl hba
      refine value1 _ hrun fun r hr => ?_
      have := builtin_run (E := E) (w := w) (ty := o.type) (cs := args.map fun | .const _ => true | _ => false) hM hr
      simp only [execOp, ho, resolve, Sem.run_bind, Sem.run_pure, Result.andThen_ok, invoke, hva]
      exact this
    | value f =>
      unfold coreAny at hrun
      simp only at hrun
      unfold coreCall at hrun
      split at hrun
      · rename_i d g caps argv hd hargv
        have hv1 : a.eval f = .func (.func g) #[] (PV.embs E caps).toArray ∧ args.map a.eval = (argv.map (PV.emb E)).toArray := by
          have hv2 : a.eval f = PV.emb E (.clo g caps) ∧ args.toList.map a.eval = argv.map (PV.emb E) := by simpa [Op.operands, Call.operands] using hv
          refine ⟨hv2.1, ?_⟩
          apply Array.toList_inj.1
          simpa using hv2.2
        have hargs : ((argv.map (PV.emb E)).toArray ++ (PV.embs E caps).toArray) = ((argv ++ caps).map (PV.emb E)).toArray := by rw [embs_map]; simp
        have hcall : (execOp a.eval o).run P w = (callFunc g ((argv ++ caps).map (PV.emb E)).toArray).run P w := by
          have := call_run (P := P) (w := w) (a := a) (c := ⟨.value f, args, ts⟩) (ty := o.type) rfl hv1.1 hv1.2
          rw [hargs] at this
          rw [← this]
          simp only [execOp, ho]
        have hnames : ∀ v ∈ argv ++ caps, ∀ n ∈ v.names, (m n).isSome = true := by
          intro v hvm n hnn
          rcases List.mem_append.1 hvm with hvm | hvm
          · exact hn v (by simp [hvm]) n hnn
          · exact hn (.clo g caps) (by simp) n (by simp only [PV.names]; exact (namess_mem _).2 ⟨v, hvm, hnn⟩)
        split at hrun
        · rename_i M hMg
          obtain ⟨henter, hcalls⟩ := hO.call g M hMg
          have := hcalls _ B (argv ++ caps) m _ out E w hnames hM hB hI hrun hf hups hnm hnd
          unfold Oper.wp
          rw [hcall, henter]
          simp only [Oper.upon]
          refine this.mono fun e w' he => ?_
          obtain ⟨E', rfl, hA, hM', hB', hF'⟩ := he
          exact hK E' w' hA hM' hB' hF'
        · split at hrun
          · rename_i M hMg
            obtain ⟨u, hu, hout⟩ := bind_putT hrun
            exact value u hout (by rw [hcall]; exact hO.ext g M hMg _ _ _ _ hu)
          · cases hrun
      · cases hrun
    | invoke r n => cases hrun
  · cases hrun
theorem core_ok {P : Program} {tid : ET → TypeId} {I : WInv} {O : Orc} (hO : OrcOk P tid I O) (nb k : Nat) : DoerOk P tid I (mkDoer P O nb k) := core_ok' hO (nb + k * 1000)
end Go.Proofs.YtpbklojdmkpkcaaDoor
