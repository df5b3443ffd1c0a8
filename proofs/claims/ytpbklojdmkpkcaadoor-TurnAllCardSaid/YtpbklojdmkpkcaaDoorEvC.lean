/- The evaluator: a region's operations, in the text's order or in any. -/
import Derived.Test.YtpbklojdmkpkcaaDoorEvB
namespace Go.Proofs.YtpbklojdmkpkcaaDoor
open Go Go.RowKit
set_option linter.unusedVariables false
set_option linter.unusedSimpArgs false

/-- Its guard lets it by (b), or not. -/
def Guard (ops : Array Oper) (o : Oper) (s : St) (b : Bool) : Prop := match o.guard with
  | none => b = true
  | some (j, want) => ∃ t, (ops[j]?).bind (·.dst) = some t ∧ (s.tmps t = some (.raw (.bool (bif b then want else !want))) ∨ (b = false ∧ ∃ cs, s.tmps t = some (.raw (.tuple cs))))
inductive StepAt (D : Doer) (nt : Nat) (ops : Array Oper) (o : Oper) (s : St) (out : Out) (c : Rec) : Prop
  | did (g : Guard ops o s true) (vals : List PV) (hv : opnds s o.op.operands.toList = some vals) (hr : (D.core o vals (restr s.mem (D.foot o vals s.mem))).run = some out)
      (hk : okOut nt s (D.foot o vals s.mem) o.dst out = true) (hc : c = recOf ops o (D.foot o vals s.mem) out)
  | skipped (g : Guard ops o s false) (ho : out = skipOut) (hk : okOut nt s [] o.dst out = true) (hc : c = recOf ops o [] out)
/-- What it looks at hangs on what it looks at. -/
def Doer.Local (D : Doer) : Prop := ∀ o vals m m', (∀ n ∈ D.foot o vals m, m' n = m n) → D.foot o vals m' = D.foot o vals m

theorem okNews_iff {s : St} {d : Nat → Bool} : ∀ {l : List (Nat × Blk)}, okNews s d l = true ↔ (∀ u ∈ l, s.mem u.1 = none ∧ ∀ n ∈ u.2.names, d n = true) ∧ (l.map (·.1)).Nodup
  | [] => by simp [okNews]
  | (b, k) :: r => by
    have e : (s.mem b).isSome = false ↔ s.mem b = none := by cases s.mem b <;> simp
    simp only [okNews, Bool.and_eq_true, okNews_iff (l := r), Blk.ok_iff, Bool.not_eq_true', List.mem_cons, List.map_cons, List.nodup_cons, forall_eq_or_imp]
    rw [e]
    have e2 : has (r.map (·.1)) b = false ↔ b ∉ r.map (·.1) := by rw [← Bool.not_eq_true, has_iff]
    rw [e2]
    constructor
    · rintro ⟨⟨⟨h1, h2⟩, h3⟩, h4, h5⟩; exact ⟨⟨⟨h1, h2⟩, h4⟩, h3, h5⟩
    · rintro ⟨⟨⟨h1, h2⟩, h4⟩, h3, h5⟩; exact ⟨⟨⟨h1, h2⟩, h3⟩, h4, h5⟩
theorem okOut_iff {nt : Nat} {s : St} {R : List Nat} {dst : Option Tmp} {o : Out} : okOut nt s R dst o = true ↔
    (∀ d ∈ dst.toList, d < nt) ∧ ((∀ u ∈ o.news, s.mem u.1 = none ∧ ∀ n ∈ u.2.names, (s.mem n).isSome = true ∨ n ∈ o.news.map (·.1)) ∧ (o.news.map (·.1)).Nodup) ∧
    (∀ n ∈ o.put.names, (s.mem n).isSome = true ∨ n ∈ o.news.map (·.1)) ∧ ∀ u ∈ o.ups, (s.mem u.1).isSome = true ∧ u.1 ∈ R ∧ ∀ n ∈ u.2.names, (s.mem n).isSome = true ∨ n ∈ o.news.map (·.1) := by
  unfold okOut
  simp only [Bool.and_eq_true, List.all_eq_true]
  have hd : ∀ n, ((s.mem n).isSome || has (o.news.map (·.1)) n) = true ↔ (s.mem n).isSome = true ∨ n ∈ o.news.map (·.1) := fun n => by rw [Bool.or_eq_true, has_iff]
  have e1 : okDst nt dst = true ↔ ∀ d ∈ dst.toList, d < nt := by
    cases dst with
    | none => simp [okDst]
    | some d => simp [okDst, Nat.blt_eq]
  rw [e1, PV.ok_iff, okNews_iff]
  simp only [hd]
  constructor
  · rintro ⟨⟨⟨h1, h2⟩, h3⟩, h4⟩
    refine ⟨h1, h2, h3, fun u hu => ?_⟩
    obtain ⟨⟨a, b⟩, c⟩ := h4 u hu
    rw [Blk.ok_iff] at c
    exact ⟨a, has_iff.1 b, fun n hn => (hd n).1 (c n hn)⟩
  · rintro ⟨h1, h2, h3, h4⟩
    refine ⟨⟨⟨h1, h2⟩, h3⟩, fun u hu => ?_⟩
    obtain ⟨a, b, c⟩ := h4 u hu
    rw [Blk.ok_iff]
    exact ⟨⟨a, has_iff.2 b⟩, fun n hn => (hd n).2 (c n hn)⟩
theorem restr_congr {m m' : Nat → Option Blk} {R : List Nat} (h : ∀ n ∈ R, m' n = m n) : restr m' R = restr m R := by
  funext n
  unfold restr
  cases hn : has R n
  · rfl
  · exact h n (has_iff.1 hn)
theorem opnds_congr {s s' : St} : ∀ (l : List Operand), (∀ t ∈ tmpsOf l, s'.tmps t = s.tmps t) → opnds s' l = opnds s l
  | [], _ => rfl
  | x :: r, h => by
    have hx : opnd s' x = opnd s x := by
      cases x with
      | tmp t => exact h t (by simp [tmpsOf])
      | _ => rfl
    have hr := opnds_congr r (fun t ht => h t (by cases x <;> simp [tmpsOf, ht]))
    simp only [opnds, hx, hr]
theorem Guard.congr {ops : Array Oper} {o : Oper} {s s' : St} {b : Bool} (h : Guard ops o s b) (ht : ∀ t ∈ guardTmp ops o, s'.tmps t = s.tmps t) : Guard ops o s' b := by
  unfold Guard guardTmp at *
  cases hg : o.guard with
  | none => rw [hg] at h; exact h
  | some p =>
    obtain ⟨j, want⟩ := p
    rw [hg] at h ht
    obtain ⟨t, h1, h2⟩ := h
    exact ⟨t, h1, by rw [ht t (by simp [h1])]; exact h2⟩
/-- Where it finds what it found in the text's order, it does what it did. -/
theorem StepAt.congr {D : Doer} (hD : D.Local) {nt : Nat} {ops : Array Oper} {o : Oper} {s s' : St} {out : Out} {c : Rec} (h : StepAt D nt ops o s out c)
    (h1 : ∀ t ∈ c.tr, s'.tmps t = s.tmps t) (h2 : ∀ b ∈ c.rd, s'.mem b = s.mem b) (h3 : ∀ b ∈ c.nw, s'.mem b = none) (h4 : ∀ b ∈ c.ment, (s'.mem b).isSome = true ∨ b ∈ c.nw) : StepAt D nt ops o s' out c := by
  have okc : ∀ R, c = recOf ops o R out → okOut nt s R o.dst out = true → okOut nt s' R o.dst out = true := by
    intro R hc hk
    subst hc
    rw [okOut_iff] at hk ⊢
    obtain ⟨a1, a2, a3, a4⟩ := hk
    refine ⟨a1, ?_, fun n hn => h4 n (List.mem_append_left _ hn), fun u hu => ?_⟩
    · refine ⟨fun u hu => ⟨h3 u.1 (List.mem_map.2 ⟨u, hu, rfl⟩), fun n hn => h4 n ?_⟩, a2.2⟩
      exact List.mem_append_right _ (List.mem_flatMap.2 ⟨u, by simp [hu], hn⟩)
    · obtain ⟨b1, b2, b3⟩ := a4 u hu
      refine ⟨by rw [h2 _ b2]; exact b1, b2, fun n hn => h4 n (List.mem_append_right _ (List.mem_flatMap.2 ⟨u, by simp [hu], hn⟩))⟩
  cases h with
  | did g vals hv hr hk hc =>
    have hR : D.foot o vals s'.mem = D.foot o vals s.mem := hD o vals s.mem s'.mem (fun n hn => h2 n (by rw [hc]; exact hn))
    refine .did (g.congr fun t ht => h1 t (by rw [hc]; exact List.mem_append_right _ ht)) vals ?_ ?_ ?_ ?_
    · rw [opnds_congr _ (fun t ht => h1 t (by rw [hc]; exact List.mem_append_left _ ht))]; exact hv
    · rw [hR, restr_congr (fun n hn => h2 n (by rw [hc]; exact hn))]; exact hr
    · rw [hR]; exact okc _ hc hk
    · rw [hR]; exact hc
  | skipped g ho hk hc =>
    exact .skipped (g.congr fun t ht => h1 t (by rw [hc]; exact List.mem_append_right _ ht)) ho (okc _ hc hk) hc

def KOk (s : St) (kn : Kn) : Prop := ∀ t b, lookK kn t = some b → s.tmps t = some (.raw (.bool b))
theorem lookK_forget {d : Option Tmp} {t : Nat} {b : Bool} : ∀ {kn : Kn}, lookK (forgetK d kn) t = some b → t ∉ d.toList ∧ lookK kn t = some b
  | [], h => by cases h
  | (u, c) :: r, h => by
    unfold forgetK at h
    cases hd : has d.toList u <;> rw [hd] at h
    · simp only [cond_false, lookK] at h ⊢
      cases hu : Nat.beq u t <;> rw [hu] at h
      · exact lookK_forget h
      · have : u = t := Nat.beq_eq ▸ hu
        subst this
        exact ⟨(fun hm => by rw [has_iff.2 hm] at hd; cases hd), h⟩
    · simp only [cond_true] at h
      obtain ⟨h1, h2⟩ := lookK_forget h
      refine ⟨h1, ?_⟩
      simp only [lookK]
      cases hu : Nat.beq u t
      · exact h2
      · have : u = t := Nat.beq_eq ▸ hu
        subst this
        exact absurd (has_iff.1 hd) h1
/-- A run in the text's order, step by step. -/
theorem evGo_run {D : Doer} {nt : Nat} {ops : Array Oper} {o : Oper} {s s' : St} {c : Rec} {kn kn' : Kn} {b : Bool} (hK : KOk s kn) (g : Guard ops o s b) (h : (evGo D nt ops o s kn b).run = some (s', c, kn')) :
    ∃ out, StepAt D nt ops o s out c ∧ s' = s.app o.dst out ∧ KOk s' kn' := by
  unfold evGo at h
  rw [Tr.run_bind, Option.bind_eq_some_iff] at h
  obtain ⟨⟨s1, c1⟩, h1, h2⟩ := h
  simp only [Tr.run, Option.some.injEq, Prod.mk.injEq] at h2
  obtain ⟨rfl, rfl, rfl⟩ := h2
  have keep : ∀ out, KOk (s.app o.dst out) (forgetK o.dst kn) := by
    intro out t b' hb
    obtain ⟨k1, k2⟩ := lookK_forget hb
    rw [app_tmps_ne k1]
    exact hK t b' k2
  cases b
  · simp only [cond_false] at h1
    unfold evSkip at h1
    cases hk : okOut nt s [] o.dst skipOut
    · rw [hk] at h1; simp [Tr.run] at h1
    · rw [hk] at h1
      simp only [cond_true, Tr.run, Option.some.injEq, Prod.mk.injEq] at h1
      obtain ⟨rfl, rfl⟩ := h1
      exact ⟨skipOut, .skipped g rfl hk rfl, rfl, keep _⟩
  · simp only [cond_true] at h1
    unfold evDo at h1
    cases hv : opnds s o.op.operands.toList with
    | none => rw [hv] at h1; simp [Tr.run] at h1
    | some vals =>
      rw [hv] at h1
      simp only [Tr.run_bind, Option.bind_eq_some_iff] at h1
      obtain ⟨out, hr, h1⟩ := h1
      cases hk : okOut nt s (D.foot o vals s.mem) o.dst out
      · rw [hk] at h1; simp [Tr.run] at h1
      · rw [hk] at h1
        simp only [cond_true, Tr.run, Option.some.injEq, Prod.mk.injEq] at h1
        obtain ⟨rfl, rfl⟩ := h1
        exact ⟨out, .did g vals hv hr hk rfl, rfl, keep _⟩
theorem know_self {s : St} {t : Nat} {b : Bool} (h : s.tmps t = some (.raw (.bool b))) : s.know t b = s := by
  refine St.ext' ?_ rfl
  funext n
  by_cases hn : n = t
  · subst hn; show upd s.tmps n _ n = _; rw [upd_same, h]
  · exact upd_ne _ _ hn
theorem knowO_self {s : St} {c : Operand} {b : Bool} (h : opnd s c = some (.raw (.bool b))) : s.knowO c b = s := by
  cases c with
  | tmp t => exact know_self h
  | _ => rfl
theorem evOp_run {D : Doer} {nt : Nat} {ops : Array Oper} {o : Oper} {s s' : St} {c : Rec} {kn kn' : Kn} (hK : KOk s kn) (h : (evOp D nt ops o s kn).run = some (s', c, kn')) : ∃ out, StepAt D nt ops o s out c ∧ s' = s.app o.dst out ∧ KOk s' kn' := by
  unfold evOp at h
  split at h
  · rename_i hg
    exact evGo_run hK (by unfold Guard; rw [hg]) h
  · rename_i j want hg
    split at h
    · simp [Tr.run] at h
    · rename_i t ht
      have hG : ∀ b : Bool, s.tmps t = some (.raw (.bool b)) → Guard ops o s (b == want) := by
        intro b hb
        unfold Guard
        rw [hg]
        refine ⟨t, ht, .inl ?_⟩
        rw [hb]
        cases b <;> cases want <;> rfl
      split at h
      · rename_i b hb
        exact evGo_run hK (hG b (hK t b hb)) h
      · split at h
        · rename_i b hb
          have hK' : ∀ b', b' = b → KOk s ((t, b') :: kn) := by
            rintro b' rfl u c' hu
            simp only [lookK] at hu
            cases hut : Nat.beq t u <;> rw [hut] at hu
            · exact hK u c' hu
            · have : t = u := Nat.beq_eq ▸ hut
              subst this
              simp only [cond_true, Option.some.injEq] at hu
              subst hu
              exact hb
          simp only [Tr.run] at h
          cases b
          · simp only [cond_false, know_self hb] at h; exact evGo_run (hK' false rfl) (hG false hb) h
          · simp only [cond_true, know_self hb] at h; exact evGo_run (hK' true rfl) (hG true hb) h
        · rename_i cs hb
          exact evGo_run hK (by unfold Guard; rw [hg]; exact ⟨t, ht, .inr ⟨rfl, cs, hb⟩⟩) h
        · simp [Tr.run] at h
theorem apps_shift {l : Nat → Bool} : ∀ (L : List Stp) (i : Nat) (s : St), apps l (i + 1) L s = apps (fun j => l (j + 1)) i L s
  | [], _, _ => rfl
  | x :: r, i, s => by simp only [apps]; exact apps_shift r (i + 1) _
theorem apps_none {l : Nat → Bool} : ∀ (L : List Stp) (i : Nat) (s : St), (∀ j, l (i + j) = false) → apps l i L s = s
  | [], _, _, _ => rfl
  | x :: r, i, s, h => by
    simp only [apps]
    rw [show l i = false from h 0, cond_false]
    exact apps_none r (i + 1) s (fun j => by have := h (j + 1); rwa [show i + (j + 1) = i + 1 + j from by omega] at this)
theorem evOps_run {D : Doer} {nt : Nat} {ops : Array Oper} : ∀ (L : List Oper) (s : St) (kn : Kn) (acc : List Rec) (s' : St) (l : List Rec), KOk s kn → (evOps D nt ops L s kn acc).run = some (s', l) →
    ∃ S : List Stp, l = acc.reverse ++ S.map (·.c) ∧ S.map (·.o) = L ∧ (∀ i x, S[i]? = some x → StepAt D nt ops x.o (apps (fun j => Nat.blt j i) 0 S s) x.out x.c) ∧ s' = apps (fun _ => true) 0 S s
  | [], s, kn, acc, s', l, hK, h => by
    simp only [evOps, Tr.run, Option.some.injEq, Prod.mk.injEq] at h
    exact ⟨[], by simp [h.2], rfl, fun i x hx => by simp at hx, h.1.symm⟩
  | o :: r, s, kn, acc, s', l, hK, h => by
    simp only [evOps, Tr.run_bind, Option.bind_eq_some_iff] at h
    obtain ⟨⟨s1, c, kn'⟩, h1, h⟩ := h
    obtain ⟨out, hst, rfl, hK'⟩ := evOp_run hK h1
    obtain ⟨S, e1, e2, e3, e4⟩ := evOps_run r _ kn' (c :: acc) s' l hK' h
    refine ⟨⟨o, out, c⟩ :: S, by simp [e1], by simp [e2], fun i x hx => ?_, ?_⟩
    · cases i with
      | zero =>
        simp only [List.getElem?_cons_zero, Option.some.injEq] at hx
        subst hx
        rw [apps_none _ _ _ (fun j => by cases hb : Nat.blt (0 + j) 0; rfl; rw [Nat.blt_eq] at hb; omega)]
        exact hst
      | succ i =>
        simp only [List.getElem?_cons_succ] at hx
        have := e3 i x hx
        simp only [apps, show Nat.blt 0 (i + 1) = true from by rw [Nat.blt_eq]; omega, cond_true]
        rw [apps_shift]
        have e : (fun j => Nat.blt (j + 1) (i + 1)) = fun j => Nat.blt j i := by
          funext j
          rw [Bool.eq_iff_iff, Nat.blt_eq, Nat.blt_eq]; omega
        rw [e]; exact this
    · simp only [apps, cond_true]
      rw [apps_shift, e4]
end Go.Proofs.YtpbklojdmkpkcaaDoor
