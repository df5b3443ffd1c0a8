/- The evaluator: contracts over data with rows. -/
import Derived.Test.YtpbklojdmkpkcaaDoorOrc
namespace Go.Proofs.YtpbklojdmkpkcaaDoor
open Go Go.RowKit
set_option linter.unusedVariables false
set_option linter.unusedSimpArgs false

/-- A row as data. -/
structure RowV where
  t : ET
  l : List t.α
/-- A row's name; none: nil. -/
def nmOf (ns : List (Option Nat)) (i : Nat) : Option Nat := match ns[i]? with
  | some o => o
  | none => none
def Held (m : Nat → Option Blk) (r : RowV) (o : Option Nat) : Prop := match o with
  | some b => ∃ own, m b = some (.row own r.t r.l)
  | none => r.l = []
def nameV (E : Env) (o : Option Nat) : Value := match o with
  | some b => (PV.sl b 0).emb E
  | none => .slice none 0 0
/-- How data with rows are spelled, as a list of values. -/
structure ACod (α : Type) where
  len : Nat
  n : Nat
  enc : (Nat → Option Nat) → α → List PV
  rows : α → List RowV
  dec : (Nat → Option Blk) → List PV → Option (α × List (Option Nat))
  rlen : ∀ a, (rows a).length = n
  ok : ∀ m l a ns, dec m l = some (a, ns) → l = enc (nmOf ns) a ∧ ns.length = n ∧ ∀ i r, (rows a)[i]? = some r → Held m r (nmOf ns i)
  cong : ∀ nm nm' a, (∀ i, i < n → nm i = nm' i) → enc nm a = enc nm' a
  names : ∀ nm a x, x ∈ PV.namess (enc nm a) → ∃ i, i < n ∧ nm i = some x
  emb : ∀ E E' nm nm' a, (∀ i, i < n → nameV E (nm i) = nameV E' (nm' i)) → PV.embs E (enc nm a) = PV.embs E' (enc nm' a)
theorem namess_append (l k : List PV) : PV.namess (l ++ k) = PV.namess l ++ PV.namess k := by
  induction l with
  | nil => rfl
  | cons v r ih => simp only [List.cons_append, PV.namess, ih, List.append_assoc]
theorem embs_append (E : Env) (l k : List PV) : PV.embs E (l ++ k) = PV.embs E l ++ PV.embs E k := by
  rw [embs_map, embs_map, embs_map, List.map_append]
def decOne {α : Type} (f : PV → Option (α × List (Option Nat))) : List PV → Option (α × List (Option Nat))
  | [v] => f v
  | _ => none
theorem decOne_some {α : Type} {f : PV → Option (α × List (Option Nat))} {l : List PV} {x : α × List (Option Nat)} (h : decOne f l = some x) : ∃ v, l = [v] ∧ f v = some x := by
  match l, h with
  | [v], h => exact ⟨v, rfl, h⟩
def aNil : ACod Unit where
  len := 0
  n := 0
  enc _ _ := []
  rows _ := []
  dec _ l := match l with
    | [] => some ((), [])
    | _ => none
  rlen _ := rfl
  ok m l a ns h := by
    split at h
    · cases h; exact ⟨rfl, rfl, fun i r h => by cases h⟩
    · cases h
  cong _ _ _ _ := rfl
  names nm a x h := by cases h
  emb E E' nm nm' a h := rfl
def aPlain {α : Type} (A : Cod α) : ACod α where
  len := 1
  n := 0
  enc _ a := [A.enc a]
  rows _ := []
  dec _ := decOne fun v => match A.dec v with
    | some a => some (a, [])
    | none => none
  rlen _ := rfl
  ok m l a ns h := by
    obtain ⟨v, hl, h2⟩ := decOne_some h
    clear h; subst hl; have h := h2; clear h2
    split at h
    · rename_i a' ha
      cases h; exact ⟨by rw [A.ok _ _ ha], rfl, fun i r h => by cases h⟩
    · cases h
  cong _ _ _ _ := rfl
  names nm a x h := by simp [PV.namess, A.names] at h
  emb E E' nm nm' a h := by simp only [PV.embs, A.emb a E' E]
/-- Numbers that lie side by side. -/
def aCells {α : Type} (ks : List IntKind) (mk : List Int → Option α) (un : α → List Int) (hmk : ∀ is a, mk is = some a → is = un a) : ACod α where
  len := ks.length
  n := 0
  enc _ a := PV.ints ks (un a)
  rows _ := []
  dec _ l := match intsOf ks l with
    | some is => match mk is with
      | some a => some (a, [])
      | none => none
    | none => none
  rlen _ := rfl
  ok m l a ns h := by
    split at h
    · rename_i is his
      split at h
      · rename_i a' ha
        cases h
        refine ⟨?_, rfl, fun i r h => by cases h⟩
        rw [intsOf_cells his, ints_raws, hmk _ _ ha]
      · cases h
    · cases h
  cong _ _ _ _ := rfl
  names nm a x h := by rw [ints_names] at h; cases h
  emb E E' nm nm' a h := by
    refine (PV.embs_congr _ fun n hn => ?_)
    rw [ints_names] at hn; cases hn
def encRow (t : ET) (o : Option Nat) : PV := match o with
  | some b => .sl b t.size
  | none => .raw (.slice none 0 0)
def aRow (t : ET) : ACod (List t.α) where
  len := 1
  n := 1
  enc nm _ := [encRow t (nm 0)]
  rows l := [⟨t, l⟩]
  dec m := decOne fun v => match v with
    | .sl b sz => bif Nat.beq sz t.size then match m b with
      | some (.row _ t' l) => if h : t' = t then some (h ▸ l, [some b]) else none
      | _ => none else none
    | .raw (.slice none 0 0) => some ([], [none])
    | _ => none
  rlen _ := rfl
  ok m l a ns h := by
    obtain ⟨v, hl, h2⟩ := decOne_some h
    clear h; subst hl; have h := h2; clear h2
    split at h
    · rename_i b sz
      cases hs : Nat.beq sz t.size <;> rw [hs] at h
      · cases h
      · have hs : sz = t.size := Nat.beq_eq ▸ hs
        subst hs
        simp only [cond_true] at h
        split at h
        · rename_i own t' l' hb
          split at h
          · rename_i ht
            subst ht
            simp only [Option.some.injEq, Prod.mk.injEq] at h
            obtain ⟨rfl, rfl⟩ := h
            refine ⟨rfl, rfl, fun i r hr => ?_⟩
            rcases i with _ | i
            · simp at hr; subst hr; exact ⟨own, hb⟩
            · simp at hr
          · cases h
        · cases h
    · simp only [Option.some.injEq, Prod.mk.injEq] at h
      obtain ⟨rfl, rfl⟩ := h
      refine ⟨rfl, rfl, fun i r hr => ?_⟩
      rcases i with _ | i
      · simp at hr; subst hr; rfl
      · simp at hr
    · cases h
  cong nm nm' a h := by rw [h 0 (by omega)]
  names nm a x h := by
    simp only [PV.namess, List.append_nil] at h
    unfold encRow at h
    split at h
    · rename_i b hb
      simp [PV.names] at h
      subst h
      exact ⟨0, by omega, hb⟩
    · cases h
  emb E E' nm nm' a h := by
    have h0 := h 0 (by omega)
    simp only [PV.embs, List.cons.injEq, and_true]
    have : ∀ E o, (encRow t o).emb E = nameV E o := fun E o => by cases o <;> rfl
    rw [this, this]; exact h0
def aAgg {α : Type} (A : ACod α) : ACod α where
  len := 1
  n := A.n
  enc nm a := [.agg (A.enc nm a)]
  rows := A.rows
  dec m := decOne fun v => match v with
    | .agg l => A.dec m l
    | _ => none
  rlen := A.rlen
  ok m l a ns h := by
    obtain ⟨v, hl, h2⟩ := decOne_some h
    clear h; subst hl; have h := h2; clear h2
    split at h
    · obtain ⟨h1, h2, h3⟩ := A.ok _ _ _ _ h
      exact ⟨by rw [← h1], h2, h3⟩
    · cases h
  cong nm nm' a h := by rw [A.cong nm nm' a h]
  names nm a x h := A.names nm a x (by simpa [PV.namess, PV.names] using h)
  emb E E' nm nm' a h := by simp only [PV.embs, PV.emb, A.emb E E' nm nm' a h]
def aCat {α β : Type} (A : ACod α) (B : ACod β) : ACod (α × β) where
  len := A.len + B.len
  n := A.n + B.n
  enc nm x := A.enc nm x.1 ++ B.enc (fun i => nm (A.n + i)) x.2
  rows x := A.rows x.1 ++ B.rows x.2
  dec m l := match A.dec m (l.take A.len), B.dec m (l.drop A.len) with
    | some (a, ns), some (b, ns') => some ((a, b), ns ++ ns')
    | _, _ => none
  rlen x := by rw [List.length_append, A.rlen, B.rlen]
  ok m l x ns h := by
    split at h
    · rename_i a na b nb ha hb
      simp only [Option.some.injEq, Prod.mk.injEq] at h
      obtain ⟨rfl, rfl⟩ := h
      obtain ⟨a1, a2, a3⟩ := A.ok _ _ _ _ ha
      obtain ⟨b1, b2, b3⟩ := B.ok _ _ _ _ hb
      have n1 : ∀ i, i < A.n → nmOf (na ++ nb) i = nmOf na i := fun i hi => by unfold nmOf; rw [List.getElem?_append_left (by omega)]
      have n2 : (fun i => nmOf (na ++ nb) (A.n + i)) = nmOf nb := by
        funext i; unfold nmOf; rw [List.getElem?_append_right (by omega), a2, Nat.add_sub_cancel_left]
      refine ⟨?_, by rw [List.length_append, a2, b2], fun i r hr => ?_⟩
      · show l = A.enc (nmOf (na ++ nb)) a ++ B.enc (fun i => nmOf (na ++ nb) (A.n + i)) b
        rw [n2, A.cong _ (nmOf na) a n1, ← a1, ← b1, List.take_append_drop]
      · by_cases hi : i < A.n
        · rw [n1 i hi]
          refine a3 i r ?_
          rwa [List.getElem?_append_left (by rw [A.rlen]; exact hi)] at hr
        · have e := congrFun n2 (i - A.n)
          rw [show A.n + (i - A.n) = i from by omega] at e
          rw [e]
          refine b3 (i - A.n) r ?_
          rwa [List.getElem?_append_right (by rw [A.rlen]; omega), A.rlen] at hr
    · cases h
  cong nm nm' x h := by rw [A.cong nm nm' x.1 (fun i hi => h i (by omega)), B.cong _ (fun i => nm' (A.n + i)) x.2 (fun i hi => h (A.n + i) (by omega))]
  names nm x y h := by
    rw [namess_append, List.mem_append] at h
    rcases h with h | h
    · obtain ⟨i, hi, e⟩ := A.names _ _ _ h
      exact ⟨i, by omega, e⟩
    · obtain ⟨i, hi, e⟩ := B.names _ _ _ h
      exact ⟨A.n + i, by omega, e⟩
  emb E E' nm nm' x h := by
    rw [embs_append, embs_append, A.emb E E' nm nm' x.1 (fun i hi => h i (by omega)), B.emb E E' _ (fun i => nm' (A.n + i)) x.2 (fun i hi => h (A.n + i) (by omega))]
def aMap {α β : Type} (A : ACod α) (f : α → β) (g : β → α) (hg : ∀ a, g (f a) = a) : ACod β where
  len := A.len
  n := A.n
  enc nm b := A.enc nm (g b)
  rows b := A.rows (g b)
  dec m l := match A.dec m l with
    | some (a, ns) => some (f a, ns)
    | none => none
  rlen b := A.rlen _
  ok m l b ns h := by
    split at h
    · rename_i a na ha
      simp only [Option.some.injEq, Prod.mk.injEq] at h
      obtain ⟨rfl, rfl⟩ := h
      rw [hg]
      exact A.ok _ _ _ _ ha
    · cases h
  cong nm nm' b h := A.cong nm nm' (g b) h
  names nm b x h := A.names nm (g b) x h
  emb E E' nm nm' b h := A.emb E E' nm nm' (g b) h
def outP (n : Nat) (l : List PV) : PV := match n with
  | 1 => match l with
    | v :: _ => v
    | [] => .raw undef
  | _ => .tup l
theorem outP_emb {n : Nat} {l k : List PV} {E E' : Env} (h : PV.embs E l = PV.embs E' k) : (outP n l).emb E = (outP n k).emb E' := by
  unfold outP
  split
  · cases l with
    | nil => cases k with
      | nil => rfl
      | cons _ _ => simp [PV.embs] at h
    | cons _ _ => cases k with
      | nil => simp [PV.embs] at h
      | cons _ _ => simp only [PV.embs, List.cons.injEq] at h; exact h.1
  · simp only [PV.emb, h]
section
variable {α γ : Type}
/-- The arguments' rows, by number. -/
def canon (A : ACod α) (a : α) : Nat → Option Blk := fun i => match (A.rows a)[i]? with
  | some r => some (.row false r.t r.l)
  | none => none
/-- Is a result's row an argument's? -/
def alias (al : List (Option Nat)) (j : Nat) : Option Nat := match al[j]? with
  | some o => o
  | none => none
structure ResOk (tid : ET → TypeId) (B : Nat) (E E' : Env) (w' : World) (al ns : List (Option Nat)) (rows : List RowV) : Prop where
  old : ∀ j i, j < rows.length → alias al j = some i → nameV E' (nmOf ns j) = nameV E (some i)
  nil : ∀ j r, rows[j]? = some r → alias al j = none → nmOf ns j = none → r.l = []
  row : ∀ j r b, rows[j]? = some r → alias al j = none → nmOf ns j = some b → RowOk tid B E' w' b true r.t r.l
  apart : ∀ j k b c x y f g, j ≠ k → j < rows.length → k < rows.length → alias al j = none → alias al k = none → nmOf ns j = some b → nmOf ns k = some c → E'.at_ b = some (x, f) → E'.at_ c = some (y, g) → x ≠ y
def CR (P : Program) (tid : ET → TypeId) (I : WInv) (f : FuncId) (A : ACod α) (R : ACod γ) (al : List (Option Nat)) (pre : α → Prop) (g : α → γ) : Prop :=
  ∀ a, pre a → ∀ (E : Env) (w : World), MemRel tid w.heap.size E (canon A a) w → I.p w.heap.size w →
    Calls P f ((A.enc some a).map (PV.emb E)).toArray w fun e w' => ∃ (E' : Env) (ns : List (Option Nat)), e = .returned ((outP R.len (R.enc (nmOf ns) (g a))).emb E') ∧ Below w.heap.size w w' ∧ ResOk tid w.heap.size E E' w' al ns (R.rows (g a))
def nmR (nb : Nat) (al ns : List (Option Nat)) (j : Nat) : Option Nat := match alias al j with
  | some i => nmOf ns i
  | none => some (nb + j)
def newsR (nb : Nat) (al : List (Option Nat)) : Nat → List RowV → List (Nat × Blk)
  | _, [] => []
  | j, r :: l => match alias al j with
    | some _ => newsR nb al (j + 1) l
    | none => (nb + j, .row true r.t r.l) :: newsR nb al (j + 1) l
theorem newsR_mem {nb : Nat} {al : List (Option Nat)} {p : Nat × Blk} : ∀ {l : List RowV} {k : Nat}, p ∈ newsR nb al k l ↔ ∃ j r, l[j]? = some r ∧ alias al (k + j) = none ∧ p = (nb + (k + j), .row true r.t r.l)
  | [], k => by simp [newsR]
  | r :: l, k => by
    have ih := newsR_mem (nb := nb) (al := al) (p := p) (l := l) (k := k + 1)
    have key : (∃ j r', l[j]? = some r' ∧ alias al (k + 1 + j) = none ∧ p = (nb + (k + 1 + j), .row true r'.t r'.l)) ↔ ∃ j r', 0 < j ∧ (r :: l)[j]? = some r' ∧ alias al (k + j) = none ∧ p = (nb + (k + j), .row true r'.t r'.l) := by
      constructor
      · rintro ⟨j, r', h1, h2, h3⟩
        exact ⟨j + 1, r', by omega, by simpa using h1, by rw [← h2]; congr 1; omega, by rw [h3]; congr 1; omega⟩
      · rintro ⟨j, r', h0, h1, h2, h3⟩
        obtain ⟨j, rfl⟩ : ∃ i, j = i + 1 := ⟨j - 1, by omega⟩
        exact ⟨j, r', by simpa using h1, by rw [← h2]; congr 1; omega, by rw [h3]; congr 1; omega⟩
    simp only [newsR]
    split
    · rename_i i hi
      rw [ih, key]
      constructor
      · rintro ⟨j, r', _, h⟩; exact ⟨j, r', h⟩
      · rintro ⟨j, r', h1, h2, h3⟩
        refine ⟨j, r', ?_, h1, h2, h3⟩
        rcases j with _ | j
        · simp only [Nat.add_zero, hi] at h2; cases h2
        · omega
    · rename_i hi
      rw [List.mem_cons, ih, key]
      constructor
      · rintro (h | ⟨j, r', _, h⟩)
        · exact ⟨0, r, rfl, hi, h⟩
        · exact ⟨j, r', h⟩
      · rintro ⟨j, r', h1, h2, h3⟩
        rcases j with _ | j
        · simp at h1; subst h1; exact .inl h3
        · exact .inr ⟨j + 1, r', by omega, h1, h2, h3⟩
def MR (A : ACod α) (R : ACod γ) (al : List (Option Nat)) (pre : α → Prop) [DecidablePred pre] (g : α → γ) : Mdl := fun nb args m => match A.dec m args with
  | some (a, ns) => .chk (decide (pre a)) (.ret { put := outP R.len (R.enc (nmR nb al ns) (g a)), news := newsR nb al 0 (R.rows (g a)) })
  | none => .bad 83
/-- The arguments' rows' places. -/
def argEnv (E : Env) (ns : List (Option Nat)) : Env :=
  { at_ := fun i => match nmOf ns i with
      | some b => E.at_ b
      | none => none
    len := fun i => match nmOf ns i with
      | some b => E.len b
      | none => 0
    cap := fun i => match nmOf ns i with
      | some b => E.cap b
      | none => 0 }
theorem argEnv_name (E : Env) (ns : List (Option Nat)) (i : Nat) : nameV (argEnv E ns) (some i) = nameV E (nmOf ns i) := by
  unfold nameV argEnv
  simp only [PV.emb]
  cases nmOf ns i with
  | none => rfl
  | some b => rfl
/-- The results' rows' places, beside the caller's. -/
def resEnv (E E' : Env) (nb n : Nat) (al ns : List (Option Nat)) : Env :=
  { at_ := fun x => if nb ≤ x ∧ x < nb + n ∧ alias al (x - nb) = none then (match nmOf ns (x - nb) with
      | some b => E'.at_ b
      | none => none) else E.at_ x
    len := fun x => if nb ≤ x ∧ x < nb + n ∧ alias al (x - nb) = none then (match nmOf ns (x - nb) with
      | some b => E'.len b
      | none => 0) else E.len x
    cap := fun x => if nb ≤ x ∧ x < nb + n ∧ alias al (x - nb) = none then (match nmOf ns (x - nb) with
      | some b => E'.cap b
      | none => 0) else E.cap x }
def okAl (r : Nat) (al : List (Option Nat)) (n : Nat) : Bool := (List.range r).all fun j => match alias al j with
  | some i => Nat.blt i n
  | none => true
theorem okAl_ok {r n : Nat} {al : List (Option Nat)} (h : okAl r al n = true) : ∀ j i, j < r → alias al j = some i → i < n := by
  intro j i hj ha
  have := List.all_eq_true.1 h j (List.mem_range.2 hj)
  rw [ha] at this
  exact Nat.blt_eq ▸ this
theorem CR.ok {P : Program} {tid : ET → TypeId} {I : WInv} {f : FuncId} {A : ACod α} {R : ACod γ} {al : List (Option Nat)} {pre : α → Prop} [DecidablePred pre] {g : α → γ} (hal' : okAl R.n al A.n = true) (he : Enters P f) (h : CR P tid I f A R al pre g) : CallOk P tid I f (MR A R al pre g) := by
  have hal := okAl_ok hal'
  refine ⟨he, fun nb B args m Rd out E w hn hM hB hI hr hf hu hnm hnd => ?_⟩
  unfold MR at hr
  split at hr
  · rename_i a ns hdec
    obtain ⟨hp, hr⟩ := run_chk hr
    rw [decide_eq_true_iff] at hp
    cases hr
    obtain ⟨e1, e2, e3⟩ := A.ok _ _ _ _ hdec
    have held : ∀ i r, (A.rows a)[i]? = some r → Held m r (nmOf ns i) := by
      intro i r hi
      have := e3 i r hi
      unfold Held at this ⊢
      split at this
      · obtain ⟨own, ho⟩ := this; exact ⟨own, restr_sub ho⟩
      · exact this
    have hargs : args.map (PV.emb E) = (A.enc some a).map (PV.emb (argEnv E ns)) := by
      rw [← embs_map, ← embs_map, e1]
      exact A.emb _ _ _ _ _ fun i hi => (argEnv_name E ns i).symm
    have hcan : MemRel tid w.heap.size (argEnv E ns) (canon A a) w := by
      have isrow : ∀ i k, canon A a i = some k → ∃ r, (A.rows a)[i]? = some r ∧ k = .row false r.t r.l := by
        intro i k hk
        unfold canon at hk
        split at hk
        · rename_i r hr'; cases hk; exact ⟨r, hr', rfl⟩
        · cases hk
      refine ⟨fun i k hk => ?_, fun i k hk n hn => ?_, fun b c k k' i j f g hne hb hc ho => ?_⟩
      · obtain ⟨r, hr', rfl⟩ := isrow i k hk
        have hh := held i r hr'
        show RowOk tid w.heap.size (argEnv E ns) w i false r.t r.l
        unfold RowOk
        unfold Held at hh
        cases hnm' : nmOf ns i with
        | none =>
          rw [hnm'] at hh
          have q : (argEnv E ns).at_ i = none := by simp only [argEnv, hnm']
          rw [q]; exact hh
        | some b =>
          rw [hnm'] at hh
          obtain ⟨own, hb⟩ := hh
          have hrow : RowOk tid B E w b own r.t r.l := hM.blk b _ hb
          have q : (argEnv E ns).at_ i = E.at_ b ∧ (argEnv E ns).len i = E.len b ∧ (argEnv E ns).cap i = E.cap b := by simp only [argEnv, hnm', and_self]
          unfold RowOk at hrow
          rw [q.1, q.2.1, q.2.2]
          cases hk2 : E.at_ b with
          | none => rw [hk2] at hrow; exact hrow
          | some q =>
            obtain ⟨q1, q2⟩ := q
            rw [hk2] at hrow
            simp only at hrow ⊢
            refine ⟨hrow.1, hrow.2.1, hrow.2.2.1, fun _ => ?_, (fun h => by cases h)⟩
            cases own with
            | false => exact Nat.lt_of_lt_of_le (hrow.2.2.2.1 rfl) hB
            | true =>
              obtain ⟨_, _, _, arr, ha, _⟩ := hrow.2.2.2.2 rfl
              exact (Array.getElem?_eq_some_iff.1 ha).1
      · obtain ⟨r, hr', rfl⟩ := isrow i k hk; cases hn
      · obtain ⟨r, hr', rfl⟩ := isrow b k hb; cases ho
    rw [hargs]
    refine (h a hp (argEnv E ns) w hcan (I.mono _ _ _ hI hB)).mono fun e w' hh => ?_
    obtain ⟨E', ns', rfl, hbel, hres⟩ := hh
    have hlen : (R.rows (g a)).length = R.n := R.rlen _
    let Ef := resEnv E E' nb R.n al ns'
    have outside : ∀ x, (m x).isSome = true → ¬ (nb ≤ x ∧ x < nb + R.n ∧ alias al (x - nb) = none) := by
      rintro x hx ⟨x1, x2, x3⟩
      have hj : x - nb < (R.rows (g a)).length := by rw [hlen]; omega
      have : x ∈ (newsR nb al 0 (R.rows (g a))).map (·.1) := by
        refine List.mem_map.2 ⟨(x, .row true ((R.rows (g a))[x - nb]).t ((R.rows (g a))[x - nb]).l), newsR_mem.2 ⟨x - nb, _, List.getElem?_eq_getElem hj, by simpa using x3, ?_⟩, rfl⟩
        congr 1; omega
      have := hf x this
      rw [this] at hx; cases hx
    have hA : Agree E Ef m := fun x hx => by
      have := outside x hx
      simp only [Ef, resEnv, if_neg this, and_self]
    have inside : ∀ j, j < R.n → alias al j = none → Ef.at_ (nb + j) = (match nmOf ns' j with
        | some b => E'.at_ b
        | none => none) ∧ Ef.len (nb + j) = (match nmOf ns' j with
        | some b => E'.len b
        | none => 0) ∧ Ef.cap (nb + j) = (match nmOf ns' j with
        | some b => E'.cap b
        | none => 0) := by
      intro j hj ha
      have hc : nb ≤ nb + j ∧ nb + j < nb + R.n ∧ alias al j = none := ⟨by omega, by omega, ha⟩
      simp only [Ef, resEnv, Nat.add_sub_cancel_left, if_pos hc, and_self]
    have nk : ∀ u ∈ newsR nb al 0 (R.rows (g a)), BlkOk tid B Ef w' u.1 u.2 ∧ (u.2.own = true → ∀ i f, Ef.at_ u.1 = some (i, f) → w.heap.size ≤ i) := by
      intro u hu
      obtain ⟨j, r, h1, h2, rfl⟩ := newsR_mem.1 hu
      rw [Nat.zero_add] at h2
      have hj : j < R.n := by rw [← hlen]; exact (List.getElem?_eq_some_iff.1 h1).1
      obtain ⟨i1, i2, i3⟩ := inside j hj h2
      simp only [Nat.zero_add]
      show RowOk tid B Ef w' (nb + j) true r.t r.l ∧ _
      unfold RowOk
      rw [i1, i2, i3]
      cases hnm' : nmOf ns' j with
      | none => exact ⟨hres.nil j r h1 h2 hnm', fun _ i f hi => by cases hi⟩
      | some b =>
        have hrow := hres.row j r b h1 h2 hnm'
        unfold RowOk at hrow
        simp only
        cases hk : E'.at_ b with
        | none => rw [hk] at hrow; exact ⟨hrow, fun _ i f hi => by cases hi⟩
        | some q =>
          obtain ⟨q1, q2⟩ := q
          rw [hk] at hrow
          simp only at hrow ⊢
          obtain ⟨p1, p2, p3, p4, p5⟩ := hrow
          refine ⟨⟨p1, p2, p3, (fun h => by cases h), fun _ => ⟨Nat.le_trans hB (p5 trivial).1, (p5 trivial).2⟩⟩, fun _ i f hi => ?_⟩
          cases hi; exact (p5 trivial).1
    refine ⟨Ef, ?_, hA, ?_, ⟨hbel.os, hbel.tape, hbel.output, hbel.size, fun i hi => hbel.block i (Nat.lt_of_lt_of_le hi hB)⟩, ?_⟩
    · congr 1
      refine outP_emb (R.emb _ _ _ _ _ fun j hj => ?_)
      unfold nmR
      cases ha : alias al j with
      | some i =>
        have h1 := hres.old j i (by omega) ha
        rw [h1, argEnv_name]
        have hi : i < A.n := hal j i hj ha
        have hri : i < (A.rows a).length := by rw [A.rlen]; exact hi
        have hh := held i _ (List.getElem?_eq_getElem hri)
        unfold Held at hh
        show nameV E (nmOf ns i) = nameV Ef (nmOf ns i)
        cases hnm' : nmOf ns i with
        | none => rfl
        | some b =>
          rw [hnm'] at hh
          obtain ⟨own, hb⟩ := hh
          have := hA b (by rw [hb]; rfl)
          simp only [nameV, PV.emb, this.1, this.2.1, this.2.2]
      | none =>
        obtain ⟨i1, i2, i3⟩ := inside j hj ha
        simp only [nameV, PV.emb, i1, i2, i3]
        cases nmOf ns' j with
        | none => rfl
        | some b => rfl
    · rw [List.append_nil]
      refine hM.more hB hA (fun i hi => hbel.block i hi) _ hf (fun u hu n hn => ?_) (by simpa using hnd) (fun u hu => ?_) (fun u hu v hv hne o1 o2 x y fx fy hx hy => ?_)
      · obtain ⟨j, r, h1, h2, rfl⟩ := newsR_mem.1 hu; cases hn
      · exact nk u hu
      · obtain ⟨j, r, h1, h2, rfl⟩ := newsR_mem.1 hu
        obtain ⟨k, r', h3, h4, rfl⟩ := newsR_mem.1 hv
        simp only [Nat.zero_add] at h2 h4 hx hy hne
        have hj : j < R.n := by rw [← hlen]; exact (List.getElem?_eq_some_iff.1 h1).1
        have hk : k < R.n := by rw [← hlen]; exact (List.getElem?_eq_some_iff.1 h3).1
        rw [(inside j hj h2).1] at hx
        rw [(inside k hk h4).1] at hy
        cases hb : nmOf ns' j with
        | none => rw [hb] at hx; cases hx
        | some b =>
          cases hc : nmOf ns' k with
          | none => rw [hc] at hy; cases hy
          | some c =>
            rw [hb] at hx; rw [hc] at hy
            exact hres.apart j k b c x y fx fy (fun e => hne (by rw [e])) (by omega) (by omega) h2 h4 hb hc hx hy
    · rw [List.append_nil]; exact Fr.more hA (fun i hi => hbel.block i hi) _ fun u hu => (nk u hu).2
  · cases hr
/-- What the evaluation of a function comes to, as data. -/
def unP (n : Nat) (v : PV) : Option (List PV) := match n with
  | 1 => some [v]
  | _ => match v with
    | .tup l => some l
    | _ => none
theorem unP_ok {n : Nat} {v : PV} {l : List PV} (h : unP n v = some l) : v = outP n l := by
  unfold unP at h
  unfold outP
  split at h
  · cases h; rfl
  · split at h
    · cases h; rfl
    · cases h
def okRes (al : List (Option Nat)) (m : Nat → Option Blk) : Nat → List (Option Nat) → List Nat → Bool
  | _, [], seen => true
  | j, o :: r, seen => match alias al j, o with
    | some i, some b => Nat.beq b i && okRes al m (j + 1) r seen
    | some _, none => false
    | none, none => okRes al m (j + 1) r seen
    | none, some b => (match m b with
      | some (.row own _ _) => own
      | _ => false) && !has seen b && okRes al m (j + 1) r (b :: seen)
theorem okRes_ok {al : List (Option Nat)} {m : Nat → Option Blk} : ∀ {ns : List (Option Nat)} {j : Nat} {seen : List Nat}, okRes al m j ns seen = true →
    (∀ k o, ns[k]? = some o → match alias al (j + k) with
      | some i => o = some i
      | none => ∀ b, o = some b → (∃ t l, m b = some (.row true t l)) ∧ b ∉ seen) ∧
    ∀ k k' b c, k ≠ k' → alias al (j + k) = none → alias al (j + k') = none → ns[k]? = some (some b) → ns[k']? = some (some c) → b ≠ c
  | [], j, seen, h => ⟨fun k o hk => by simp at hk, fun k k' b c _ _ _ hk => by simp at hk⟩
  | o :: r, j, seen, h => by
    simp only [okRes] at h
    split at h
    · rename_i i b ha
      rw [Bool.and_eq_true] at h
      have hb : b = i := Nat.beq_eq ▸ h.1
      obtain ⟨i1, i2⟩ := okRes_ok h.2
      refine ⟨fun k o hk => ?_, fun k k' b' c hne a1 a2 h1 h2 => ?_⟩
      · rcases k with _ | k
        · simp at hk; subst hk; rw [Nat.add_zero, ha, hb]
        · rw [show j + (k + 1) = j + 1 + k from by omega]; exact i1 k o (by simpa using hk)
      · rcases k with _ | k
        · rw [Nat.add_zero, ha] at a1; cases a1
        · rcases k' with _ | k'
          · rw [Nat.add_zero, ha] at a2; cases a2
          · rw [show j + (k + 1) = j + 1 + k from by omega] at a1
            rw [show j + (k' + 1) = j + 1 + k' from by omega] at a2
            exact i2 k k' b' c (by omega) a1 a2 (by simpa using h1) (by simpa using h2)
    · cases h
    · rename_i ha
      obtain ⟨i1, i2⟩ := okRes_ok h
      refine ⟨fun k o hk => ?_, fun k k' b' c hne a1 a2 h1 h2 => ?_⟩
      · rcases k with _ | k
        · simp at hk; subst hk; rw [Nat.add_zero, ha]; intro b hb; cases hb
        · rw [show j + (k + 1) = j + 1 + k from by omega]; exact i1 k o (by simpa using hk)
      · rcases k with _ | k
        · simp at h1
        · rcases k' with _ | k'
          · simp at h2
          · rw [show j + (k + 1) = j + 1 + k from by omega] at a1
            rw [show j + (k' + 1) = j + 1 + k' from by omega] at a2
            exact i2 k k' b' c (by omega) a1 a2 (by simpa using h1) (by simpa using h2)
    · rename_i b ha
      rw [Bool.and_eq_true, Bool.and_eq_true] at h
      obtain ⟨⟨hm, hs⟩, h⟩ := h
      have hrow : ∃ t l, m b = some (.row true t l) := by
        split at hm
        · rename_i own t l hmb; exact ⟨t, l, by rw [hmb, hm]⟩
        · cases hm
      have hs : b ∉ seen := by simpa only [Bool.not_eq_true', ← Bool.not_eq_true, has_iff] using hs
      obtain ⟨i1, i2⟩ := okRes_ok h
      have later : ∀ k c, r[k]? = some (some c) → alias al (j + 1 + k) = none → c ≠ b := by
        intro k c hk hal e
        have := i1 k _ hk
        rw [hal] at this
        exact (this c rfl).2 (by rw [e]; exact List.mem_cons_self)
      refine ⟨fun k o hk => ?_, fun k k' b' c hne a1 a2 h1 h2 => ?_⟩
      · rcases k with _ | k
        · simp at hk; subst hk; rw [Nat.add_zero, ha]; intro b' hb; cases hb; exact ⟨hrow, hs⟩
        · rw [show j + (k + 1) = j + 1 + k from by omega]
          have := i1 k o (by simpa using hk)
          split at this
          · exact this
          · intro b' hb
            exact ⟨(this b' hb).1, fun hm => (this b' hb).2 (List.mem_cons_of_mem _ hm)⟩
      · rcases k with _ | k
        · simp at h1
          subst h1
          rcases k' with _ | k'
          · exact absurd rfl hne
          · rw [show j + (k' + 1) = j + 1 + k' from by omega] at a2
            exact Ne.symm (later k' c (by simpa using h2) a2)
        · rw [show j + (k + 1) = j + 1 + k from by omega] at a1
          rcases k' with _ | k'
          · simp at h2
            subst h2
            exact later k b' (by simpa using h1) a1
          · rw [show j + (k' + 1) = j + 1 + k' from by omega] at a2
            exact i2 k k' b' c (by omega) a1 a2 (by simpa using h1) (by simpa using h2)
def finR (R : ACod γ) (al : List (Option Nat)) (r : PV × St) : Tr γ := match unP R.len r.1 with
  | some l => match R.dec r.2.mem l with
    | some (c, ns) => bif okRes al r.2.mem 0 ns [] then .ret c else .bad 84
    | none => .bad 85
  | none => .bad 86
def evR (P : Program) (O : Orc) (fn : Func) (Ls : List LSpec) (A : ACod α) (R : ACod γ) (al : List (Option Nat)) (a : α) : Tr γ :=
  (evFunc P (mkDoer P O 100) fn Ls (List.range A.n) [] (A.enc some a) (canon A a)).bind (finR R al)
theorem CR.ev (Ls : α → List LSpec) {P : Program} {tid : ET → TypeId} {I : WInv} {f : FuncId} {fn : Func} {O : Orc} {A : ACod α} {R : ACod γ} {al : List (Option Nat)} {pre : α → Prop} {g : α → γ} (hm : P.follows .mixedOrders = true) (hO : OrcOk P tid I O) (hf : P.funcs[f]? = some fn)
    (hn : ∀ a, (A.enc some a).length ≤ fn.ntmps) (hal' : okAl R.n al A.n = true) (h : ∀ a, pre a → Good (evR P O fn (Ls a) A R al a) fun c => c = g a) : CR P tid I f A R al pre g := by
  have hal := okAl_ok hal'
  intro a hp E w hM hI
  have h1 := (h a hp).h
  unfold evR at h1
  rw [Tr.holds_bind] at h1
  have dom : ∀ i, i < A.n → (canon A a i).isSome = true := by
    intro i hi
    unfold canon
    rw [List.getElem?_eq_getElem (by rw [A.rlen]; exact hi)]
    rfl
  refine (func_ok hm (core_ok hO 100) (mkDoer_local P O 100) hf (hn a) (M := List.range A.n) (fun u hu n hnn => ?_) (Nat.le_refl _) hM hI (fun b hb => ?_) (fun b hb => ?_) h1).mono ?_
  · obtain ⟨i, hi, e⟩ := A.names some a n ((namess_mem _).2 ⟨u, hu, hnn⟩)
    have e : i = n := Option.some.inj e
    rw [← e]
    exact dom i hi
  · unfold canon at hb
    split at hb
    · rename_i r hr
      have := (List.getElem?_eq_some_iff.1 hr).1
      rw [A.rlen] at this
      exact List.mem_range.2 this
    · cases hb
  · cases hb
  · rintro e w' ⟨v, s, E', a', rfl, hfin, hr, _⟩
    unfold finR at hfin
    split at hfin
    · rename_i l hl
      split at hfin
      · rename_i c ns hc
        cases hk : okRes al s.mem 0 ns [] <;> simp only at hfin <;> rw [hk] at hfin
        · exact hfin.elim
        · have hfin : c = g a := hfin
          subst hfin
          obtain ⟨r1, r2, r3⟩ := R.ok _ _ _ _ hc
          obtain ⟨k1, k2⟩ := okRes_ok hk
          have hl' := unP_ok hl
          simp only at hl'
          have hlen : (R.rows (g a)).length = R.n := R.rlen _
          have nm : ∀ j o, nmOf ns j = some o → ns[j]? = some (some o) := by
            intro j o hj
            unfold nmOf at hj
            split at hj
            · rename_i x hx; rw [hx, hj]
            · cases hj
          refine ⟨E', ns, by rw [hl', ← r1], hr.below, ⟨fun j i hj ha => ?_, fun j r hj ha hn0 => ?_, fun j r b hj ha hb => ?_, fun j k b c x y fx fy hne hj hk' a1 a2 hb hc' hx hy => ?_⟩⟩
          · have hjn : j < ns.length := by rw [r2, ← hlen]; exact hj
            have := k1 j _ (List.getElem?_eq_getElem hjn)
            rw [Nat.zero_add, ha] at this
            have e1 : nmOf ns j = some i := by unfold nmOf; rw [List.getElem?_eq_getElem hjn]; exact this
            have hA := hr.from_ i (dom i (hal j i (by rw [← hlen]; exact hj) ha))
            rw [e1]
            simp only [nameV, PV.emb, hA.1, hA.2.1, hA.2.2]
          · have := r3 j r hj
            rw [hn0] at this
            exact this
          · have h2 := r3 j r hj
            rw [hb] at h2
            obtain ⟨own, ho⟩ := h2
            have h3 := k1 j _ (nm j b hb)
            rw [Nat.zero_add, ha] at h3
            obtain ⟨⟨t, l, htl⟩, _⟩ := h3 b rfl
            rw [ho] at htl
            have : own = true := by injection htl with h; injection h
            subst this
            exact hr.mem.blk b _ ho
          · have hbc := k2 j k b c hne (by rw [Nat.zero_add]; exact a1) (by rw [Nat.zero_add]; exact a2) (nm j b hb) (nm k c hc')
            have o1 := k1 j _ (nm j b hb)
            rw [Nat.zero_add, a1] at o1
            have o2 := k1 k _ (nm k c hc')
            rw [Nat.zero_add, a2] at o2
            obtain ⟨⟨t, l, h1⟩, _⟩ := o1 b rfl
            obtain ⟨⟨t', l', h2⟩, _⟩ := o2 c rfl
            exact hr.mem.apart b c _ _ x y fx fy hbc h1 h2 rfl rfl hx hy
      · exact hfin.elim
    · exact hfin.elim
end
/-- A contract over rows, as an entry. -/
def eR {α γ : Type} {P : Program} {tid : ET → TypeId} {I : WInv} {f : FuncId} {fn : Func} {A : ACod α} {R : ACod γ} {al : List (Option Nat)} {pre : α → Prop} [DecidablePred pre] {g : α → γ} (h : CR P tid I f A R al pre g) (hf : P.funcs[f]? = some fn)
    (hal : okAl R.n al A.n = true := by rfl) (hn : (fn.name == "runtime.NumGoroutine") = false := by rfl) (hb : fn.body.isNone = false := by rfl) : Ent P tid I := ⟨f, MR A R al pre g, h.ok hal (enters hf hn hb)⟩
/-- A loop in which one whole number changes. -/
def intLoop (t : Nat) (inv : Int → Prop) (μ : Int → Nat) : LSpec where
  σ := Int
  keysT := [t]
  enc _ i := ([.int .i64 i], [])
  rd _ s := match s.tmps t with
    | some (.raw (.int _ i)) => some (i, [])
    | _ => none
  inv _ := inv
  μ _ := μ
end Go.Proofs.YtpbklojdmkpkcaaDoor
