import Derived.Test.YtpbklojdmkpkcaaDoorProg
import Derived.Test.YtpbklojdmkpkcaaDoorG7
/- The evaluator: contracts over data with rows. -/
namespace Go.Proofs.YtpbklojdmkpkcaaDoor
open Go Go.RowKit
set_option linter.unusedVariables false
set_option linter.unusedSimpArgs false

/-- A row as data. -/
structure RowV where
  t : ET
  l : List t.α
/-- A row's name; none: nil. -/
def nmOf (ns : List (Option Nat)) (i : Nat) : Option Nat := match ns[i]? with
  | some o => o
  | none => none
def Held (m : Nat → Option Blk) (r : RowV) (o : Option Nat) : Prop := match o with
  | some b => ∃ own, m b = some (.row own r.t r.l)
  | none => r.l = []
def nameV (E : Env) (o : Option Nat) : Value := match o with
  | some b => (PV.sl b 0).emb E
  | none => .slice none 0 0
/-- How data with rows are spelled, as a list of values. -/
structure ACod (α : Type) where
  len : Nat
  n : Nat
  enc : (Nat → Option Nat) → α → List PV
  rows : α → List RowV
  dec : (Nat → Option Blk) → List PV → Option (α × List (Option Nat))
  rlen : ∀ a, (rows a).length = n
  ok : ∀ m l a ns, dec m l = some (a, ns) → l = enc (nmOf ns) a ∧ ns.length = n ∧ ∀ i r, (rows a)[i]? = some r → Held m r (nmOf ns i)
  cong : ∀ nm nm' a, (∀ i, i < n → nm i = nm' i) → enc nm a = enc nm' a
  names : ∀ nm a x, x ∈ PV.namess (enc nm a) → ∃ i, i < n ∧ nm i = some x
  emb : ∀ E E' nm nm' a, (∀ i, i < n → nameV E (nm i) = nameV E' (nm' i)) → PV.embs E (enc nm a) = PV.embs E' (enc nm' a)
theorem namess_append (l k : List PV) : PV.namess (l ++ k) = PV.namess l ++ PV.namess k := by
  induction l with
  | nil => rfl
  | cons v r ih => simp only [List.cons_append, PV.namess, ih, List.append_assoc]
theorem embs_append (E : Env) (l k : List PV) : PV.embs E (l ++ k) = PV.embs E l ++ PV.embs E k := by
  rw [embs_map, embs_map, embs_map, List.map_append]
def decOne {α : Type} (f : PV → Option (α × List (Option Nat))) : List PV → Option (α × List (Option Nat))
  | [v] => f v
  | _ => none
theorem decOne_some {α : Type} {f : PV → Option (α × List (Option Nat))} {l : List PV} {x : α × List (Option Nat)} (h : decOne f l = some x) : ∃ v, l = [v] ∧ f v = some x := by
  match l, h with
  | [v], h => exact ⟨v, rfl, h⟩
def aNil : ACod Unit where
  len := 0
  n := 0
  enc _ _ := []
  rows _ := []
  dec _ l := match l with
    | [] => some ((), [])
    | _ => none
  rlen _ := rfl
  ok m l a ns h := by
    split at h
    · cases h; exact ⟨rfl, rfl, fun i r h => by cases h⟩
    · cases h
  cong _ _ _ _ := rfl
  names nm a x h := by cases h
  emb E E' nm nm' a h := rfl
def aPlain {α : Type} (A : Cod α) : ACod α where
  len := 1
  n := 0
  enc _ a := [A.enc a]
  rows _ := []
  dec _ := decOne fun v => match A.dec v with
    | some a => some (a, [])
    | none => none
  rlen _ := rfl
  ok m l a ns h := by
    obtain ⟨v, hl, h2⟩ := decOne_some h
    clear h; subst hl; have h := h2; clear h2
    split at h
    · rename_i a' ha
      cases h; exact ⟨by rw [A.ok _ _ ha], rfl, fun i r h => by cases h⟩
    · cases h
  cong _ _ _ _ := rfl
  names nm a x h := by simp [PV.namess, A.names] at h
  emb E E' nm nm' a h := by simp only [PV.embs, A.emb a E' E]
/-- Numbers that lie side by side. -/
def aCells {α : Type} (ks : List IntKind) (mk : List Int → Option α) (un : α → List Int) (hmk : ∀ is a, mk is = some a → is = un a) : ACod α where
  len := ks.length
  n := 0
  enc _ a := PV.ints ks (un a)
  rows _ := []
  dec _ l := match intsOf ks l with
    | some is => match mk is with
      | some a => some (a, [])
      | none => none
    | none => none
  rlen _ := rfl
  ok m l a ns h := by
    split at h
    · rename_i is his
      split at h
      · rename_i a' ha
        cases h
        refine ⟨?_, rfl, fun i r h => by cases h⟩
        rw [intsOf_cells his, ints_raws, hmk _ _ ha]
      · cases h
    · cases h
  cong _ _ _ _ := rfl
  names nm a x h := by rw [ints_names] at h; cases h
  emb E E' nm nm' a h := by
    refine (PV.embs_congr _ fun n hn => ?_)
    rw [ints_names] at hn; cases hn
def encRow (t : ET) (o : Option Nat) : PV := match o with
  | some b => .sl b t.size
  | none => .raw (.slice none 0 0)
def aRow (t : ET) : ACod (List t.α) where
  len := 1
  n := 1
  enc nm _ := [encRow t (nm 0)]
  rows l := [⟨t, l⟩]
  dec m := decOne fun v => match v with
    | .sl b sz => bif Nat.beq sz t.size then match m b with
      | some (.row _ t' l) => if h : t' = t then some (h ▸ l, [some b]) else none
      | _ => none else none
    | .raw (.slice none 0 0) => some ([], [none])
    | _ => none
  rlen _ := rfl
  ok m l a ns h := by
    obtain ⟨v, hl, h2⟩ := decOne_some h
    clear h; subst hl; have h := h2; clear h2
    split at h
    · rename_i b sz
      cases hs : Nat.beq sz t.size <;> rw [hs] at h
      · cases h
      · have hs : sz = t.size := Nat.beq_eq ▸ hs
        subst hs
        simp only [cond_true] at h
        split at h
        · rename_i own t' l' hb
          split at h
          · rename_i ht
            subst ht
            simp only [Option.some.injEq, Prod.mk.injEq] at h
            obtain ⟨rfl, rfl⟩ := h
            refine ⟨rfl, rfl, fun i r hr => ?_⟩
            rcases i with _ | i
            · simp at hr; subst hr; exact ⟨own, hb⟩
            · simp at hr
          · cases h
        · cases h
    · simp only [Option.some.injEq, Prod.mk.injEq] at h
      obtain ⟨rfl, rfl⟩ := h
      refine ⟨rfl, rfl, fun i r hr => ?_⟩
      rcases i with _ | i
      · simp at hr; subst hr; rfl
      · simp at hr
    · cases h
  cong nm nm' a h := by rw [h 0 (by omega)]
  names nm a x h := by
    simp only [PV.namess, List.append_nil] at h
    unfold encRow at h
    split at h
    · rename_i b hb
      simp [PV.names] at h
      subst h
      exact ⟨0, by omega, hb⟩
    · cases h
  emb E E' nm nm' a h := by
    have h0 := h 0 (by omega)
    simp only [PV.embs, List.cons.injEq, and_true]
    have : ∀ E o, (encRow t o).emb E = nameV E o := fun E o => by cases o <;> rfl
    rw [this, this]; exact h0
def aAgg {α : Type} (A : ACod α) : ACod α where
  len := 1
  n := A.n
  enc nm a := [.agg (A.enc nm a)]
  rows := A.rows
  dec m := decOne fun v => match v with
    | .agg l => A.dec m l
    | _ => none
  rlen := A.rlen
  ok m l a ns h := by
    obtain ⟨v, hl, h2⟩ := decOne_some h
    clear h; subst hl; have h := h2; clear h2
    split at h
    · obtain ⟨h1, h2, h3⟩ := A.ok _ _ _ _ h
      exact ⟨by rw [← h1], h2, h3⟩
    · cases h
  cong nm nm' a h := by rw [A.cong nm nm' a h]
  names nm a x h := A.names nm a x (by simpa [PV.namess, PV.names] using h)
  emb E E' nm nm' a h := by simp only [PV.embs, PV.emb, A.emb E E' nm nm' a h]
def aCat {α β : Type} (A : ACod α) (B : ACod β) : ACod (α × β) where
  len := A.len + B.len
  n := A.n + B.n
  enc nm x := A.enc nm x.1 ++ B.enc (fun i => nm (A.n + i)) x.2
  rows x := A.rows x.1 ++ B.rows x.2
  dec m l := match A.dec m (l.take A.len), B.dec m (l.drop A.len) with
    | some (a, ns), some (b, ns') => some ((a, b), ns ++ ns')
    | _, _ => none
  rlen x := by rw [List.length_append, A.rlen, B.rlen]
  ok m l x ns h := by
    split at h
    · rename_i a na b nb ha hb
      simp only [Option.some.injEq, Prod.mk.injEq] at h
      obtain ⟨rfl, rfl⟩ := h
      obtain ⟨a1, a2, a3⟩ := A.ok _ _ _ _ ha
      obtain ⟨b1, b2, b3⟩ := B.ok _ _ _ _ hb
      have n1 : ∀ i, i < A.n → nmOf (na ++ nb) i = nmOf na i := fun i hi => by unfold nmOf; rw [List.getElem?_append_left (by omega)]
      have n2 : (fun i => nmOf (na ++ nb) (A.n + i)) = nmOf nb := by
        funext i; unfold nmOf; rw [List.getElem?_append_right (by omega), a2, Nat.add_sub_cancel_left]
      refine ⟨?_, by rw [List.length_append, a2, b2], fun i r hr => ?_⟩
      · show l = A.enc (nmOf (na ++ nb)) a ++ B.enc (fun i => nmOf (na ++ nb) (A.n + i)) b
        rw [n2, A.cong _ (nmOf na) a n1, ← a1, ← b1, List.take_append_drop]
      · by_cases hi : i < A.n
        · rw [n1 i hi]
          refine a3 i r ?_
          rwa [List.getElem?_append_left (by rw [A.rlen]; exact hi)] at hr
        · have e := congrFun n2 (i - A.n)
          rw [show A.n + (i - A.n) = i from by omega] at e
          rw [e]
          refine b3 (i - A.n) r ?_
          rwa [List.getElem?_append_right (by rw [A.rlen]; omega), A.rlen] at hr
    · cases h
  cong nm nm' x h := by rw [A.cong nm nm' x.1 (fun i hi => h i (by omega)), B.cong _ (fun i => nm' (A.n + i)) x.2 (fun i hi => h (A.n + i) (by omega))]
  names nm x y h := by
    rw [namess_append, List.mem_append] at h
    rcases h with h | h
    · obtain ⟨i, hi, e⟩ := A.names _ _ _ h
      exact ⟨i, by omega, e⟩
    · obtain ⟨i, hi, e⟩ := B.names _ _ _ h
      exact ⟨A.n + i, by omega, e⟩
  emb E E' nm nm' x h := by
    rw [embs_append, embs_append, A.emb E E' nm nm' x.1 (fun i hi => h i (by omega)), B.emb E E' _ (fun i => nm' (A.n + i)) x.2 (fun i hi => h (A.n + i) (by omega))]
def aMap {α β : Type} (A : ACod α) (f : α → β) (g : β → α) (hg : ∀ a, g (f a) = a) : ACod β where
  len := A.len
  n := A.n
  enc nm b := A.enc nm (g b)
  rows b := A.rows (g b)
  dec m l := match A.dec m l with
    | some (a, ns) => some (f a, ns)
    | none => none
  rlen b := A.rlen _
  ok m l b ns h := by
    split at h
    · rename_i a na ha
      simp only [Option.some.injEq, Prod.mk.injEq] at h
      obtain ⟨rfl, rfl⟩ := h
      rw [hg]
      exact A.ok _ _ _ _ ha
    · cases h
  cong nm nm' b h := A.cong nm nm' (g b) h
  names nm b x h := A.names nm (g b) x h
  emb E E' nm nm' b h := A.emb E E' nm nm' (g b) h
def outP (n : Nat) (l : List PV) : PV := match n with
  | 1 => match l with
    | v :: _ => v
    | [] => .raw undef
  | _ => .tup l
theorem outP_emb {n : Nat} {l k : List PV} {E E' : Env} (h : PV.embs E l = PV.embs E' k) : (outP n l).emb E = (outP n k).emb E' := by
  unfold outP
  split
  · cases l with
    | nil => cases k with
      | nil => rfl
      | cons _ _ => simp [PV.embs] at h
    | cons _ _ => cases k with
      | nil => simp [PV.embs] at h
      | cons _ _ => simp only [PV.embs, List.cons.injEq] at h; exact h.1
  · simp only [PV.emb, h]
section
variable {α γ : Type}
/-- The arguments' rows, by number. -/
def canon (A : ACod α) (a : α) : Nat → Option Blk := fun i => match (A.rows a)[i]? with
  | some r => some (.row false r.t r.l)
  | none => none
/-- Is a result's row an argument's? -/
def alias (al : List (Option Nat)) (j : Nat) : Option Nat := match al[j]? with
  | some o => o
  | none => none
structure ResOk (tid : ET → TypeId) (B : Nat) (E E' : Env) (w' : World) (al ns : List (Option Nat)) (rows : List RowV) : Prop where
  old : ∀ j i, j < rows.length → alias al j = some i → nameV E' (nmOf ns j) = nameV E (some i)
  nil : ∀ j r, rows[j]? = some r → alias al j = none → nmOf ns j = none → r.l = []
  row : ∀ j r b, rows[j]? = some r → alias al j = none → nmOf ns j = some b → RowOk tid B E' w' b true r.t r.l
  apart : ∀ j k b c x y f g, j ≠ k → j < rows.length → k < rows.length → alias al j = none → alias al k = none → nmOf ns j = some b → nmOf ns k = some c → E'.at_ b = some (x, f) → E'.at_ c = some (y, g) → x ≠ y
def CR (P : Program) (tid : ET → TypeId) (I : WInv) (f : FuncId) (A : ACod α) (R : ACod γ) (al : List (Option Nat)) (pre : α → Prop) (g : α → γ) : Prop :=
  ∀ a, pre a → ∀ (E : Env) (w : World), MemRel tid w.heap.size E (canon A a) w → I.p w.heap.size w →
    Calls P f ((A.enc some a).map (PV.emb E)).toArray w fun e w' => ∃ (E' : Env) (ns : List (Option Nat)), e = .returned ((outP R.len (R.enc (nmOf ns) (g a))).emb E') ∧ Below w.heap.size w w' ∧ ResOk tid w.heap.size E E' w' al ns (R.rows (g a))
def nmR (nb : Nat) (al ns : List (Option Nat)) (j : Nat) : Option Nat := match alias al j with
  | some i => nmOf ns i
  | none => some (nb + j)
def newsR (nb : Nat) (al : List (Option Nat)) : Nat → List RowV → List (Nat × Blk)
  | _, [] => []
  | j, r :: l => match alias al j with
    | some _ => newsR nb al (j + 1) l
    | none => (nb + j, .row true r.t r.l) :: newsR nb al (j + 1) l
theorem newsR_mem {nb : Nat} {al : List (Option Nat)} {p : Nat × Blk} : ∀ {l : List RowV} {k : Nat}, p ∈ newsR nb al k l ↔ ∃ j r, l[j]? = some r ∧ alias al (k + j) = none ∧ p = (nb + (k + j), .row true r.t r.l)
  | [], k => by simp [newsR]
  | r :: l, k => by
    have ih := newsR_mem (nb := nb) (al := al) (p := p) (l := l) (k := k + 1)
    have key : (∃ j r', l[j]? = some r' ∧ alias al (k + 1 + j) = none ∧ p = (nb + (k + 1 + j), .row true r'.t r'.l)) ↔ ∃ j r', 0 < j ∧ (r :: l)[j]? = some r' ∧ alias al (k + j) = none ∧ p = (nb + (k + j), .row true r'.t r'.l) := by
      constructor
      · rintro ⟨j, r', h1, h2, h3⟩
        exact ⟨j + 1, r', by omega, by simpa using h1, by rw [← h2]; congr 1; omega, by rw [h3]; congr 1; omega⟩
      · rintro ⟨j, r', h0, h1, h2, h3⟩
        obtain ⟨j, rfl⟩ : ∃ i, j = i + 1 := ⟨j - 1, by omega⟩
        exact ⟨j, r', by simpa using h1, by rw [← h2]; congr 1; omega, by rw [h3]; congr 1; omega⟩
    simp only [newsR]
    split
    · rename_i i hi
      rw [ih, key]
      constructor
      · rintro ⟨j, r', _, h⟩; exact ⟨j, r', h⟩
      · rintro ⟨j, r', h1, h2, h3⟩
        refine ⟨j, r', ?_, h1, h2, h3⟩
        rcases j with _ | j
        · simp only [Nat.add_zero, hi] at h2; cases h2
        · omega
    · rename_i hi
      rw [List.mem_cons, ih, key]
      constructor
      · rintro (h | ⟨j, r', _, h⟩)
        · exact ⟨0, r, rfl, hi, h⟩
        · exact ⟨j, r', h⟩
      · rintro ⟨j, r', h1, h2, h3⟩
        rcases j with _ | j
        · simp at h1; subst h1; exact .inl h3
        · exact .inr ⟨j + 1, r', by omega, h1, h2, h3⟩
def MR (A : ACod α) (R : ACod γ) (al : List (Option Nat)) (pre : α → Prop) [DecidablePred pre] (g : α → γ) : Mdl := fun nb args m => match A.dec m args with
  | some (a, ns) => .chk (decide (pre a)) (.ret { put := outP R.len (R.enc (nmR nb al ns) (g a)), news := newsR nb al 0 (R.rows (g a)) })
  | none => .bad 83
/-- The arguments' rows' places. -/
def argEnv (E : Env) (ns : List (Option Nat)) : Env :=
  { at_ := fun i => match nmOf ns i with
      | some b => E.at_ b
      | none => none
    len := fun i => match nmOf ns i with
      | some b => E.len b
      | none => 0
    cap := fun i => match nmOf ns i with
      | some b => E.cap b
      | none => 0 }
theorem argEnv_name (E : Env) (ns : List (Option Nat)) (i : Nat) : nameV (argEnv E ns) (some i) = nameV E (nmOf ns i) := by
  unfold nameV argEnv
  simp only [PV.emb]
  cases nmOf ns i with
  | none => rfl
  | some b => rfl
/-- The results' rows' places, beside the caller's. -/
def resEnv (E E' : Env) (nb n : Nat) (al ns : List (Option Nat)) : Env :=
  { at_ := fun x => if nb ≤ x ∧ x < nb + n ∧ alias al (x - nb) = none then (match nmOf ns (x - nb) with
      | some b => E'.at_ b
      | none => none) else E.at_ x
    len := fun x => if nb ≤ x ∧ x < nb + n ∧ alias al (x - nb) = none then (match nmOf ns (x - nb) with
      | some b => E'.len b
      | none => 0) else E.len x
    cap := fun x => if nb ≤ x ∧ x < nb + n ∧ alias al (x - nb) = none then (match nmOf ns (x - nb) with
      | some b => E'.cap b
      | none => 0) else E.cap x }
def okAl (r : Nat) (al : List (Option Nat)) (n : Nat) : Bool := (List.range r).all fun j => match alias al j with
  | some i => Nat.blt i n
  | none => true
theorem okAl_ok {r n : Nat} {al : List (Option Nat)} (h : okAl r al n = true) : ∀ j i, j < r → alias al j = some i → i < n := by
  intro j i hj ha
  have := List.all_eq_true.1 h j (List.mem_range.2 hj)
  rw [ha] at this
  exact Nat.blt_eq ▸ this
theorem CR.ok {P : Program} {tid : ET → TypeId} {I : WInv} {f : FuncId} {A : ACod α} {R : ACod γ} {al : List (Option Nat)} {pre : α → Prop} [DecidablePred pre] {g : α → γ} (hal' : okAl R.n al A.n = true) (he : Enters P f) (h : CR P tid I f A R al pre g) : CallOk P tid I f (MR A R al pre g) := by
  have hal := okAl_ok hal'
  refine ⟨he, fun nb B args m Rd out E w hn hM hB hI hr hf hu hnm hnd => ?_⟩
  unfold MR at hr
  split at hr
  · rename_i a ns hdec
    obtain ⟨hp, hr⟩ := run_chk hr
    rw [decide_eq_true_iff] at hp
    cases hr
    obtain ⟨e1, e2, e3⟩ := A.ok _ _ _ _ hdec
    have held : ∀ i r, (A.rows a)[i]? = some r → Held m r (nmOf ns i) := by
      intro i r hi
      have := e3 i r hi
      unfold Held at this ⊢
      split at this
      · obtain ⟨own, ho⟩ := this; exact ⟨own, restr_sub ho⟩
      · exact this
    have hargs : args.map (PV.emb E) = (A.enc some a).map (PV.emb (argEnv E ns)) := by
      rw [← embs_map, ← embs_map, e1]
      exact A.emb _ _ _ _ _ fun i hi => (argEnv_name E ns i).symm
    have hcan : MemRel tid w.heap.size (argEnv E ns) (canon A a) w := by
      have isrow : ∀ i k, canon A a i = some k → ∃ r, (A.rows a)[i]? = some r ∧ k = .row false r.t r.l := by
        intro i k hk
        unfold canon at hk
        split at hk
        · rename_i r hr'; cases hk; exact ⟨r, hr', rfl⟩
        · cases hk
      refine ⟨fun i k hk => ?_, fun i k hk n hn => ?_, fun b c k k' i j f g hne hb hc ho => ?_⟩
      · obtain ⟨r, hr', rfl⟩ := isrow i k hk
        have hh := held i r hr'
        show RowOk tid w.heap.size (argEnv E ns) w i false r.t r.l
        unfold RowOk
        unfold Held at hh
        cases hnm' : nmOf ns i with
        | none =>
          rw [hnm'] at hh
          have q : (argEnv E ns).at_ i = none := by simp only [argEnv, hnm']
          rw [q]; exact hh
        | some b =>
          rw [hnm'] at hh
          obtain ⟨own, hb⟩ := hh
          have hrow : RowOk tid B E w b own r.t r.l := hM.blk b _ hb
          have q : (argEnv E ns).at_ i = E.at_ b ∧ (argEnv E ns).len i = E.len b ∧ (argEnv E ns).cap i = E.cap b := by simp only [argEnv, hnm', and_self]
          unfold RowOk at hrow
          rw [q.1, q.2.1, q.2.2]
          cases hk2 : E.at_ b with
          | none => rw [hk2] at hrow; exact hrow
          | some q =>
            obtain ⟨q1, q2⟩ := q
            rw [hk2] at hrow
            simp only at hrow ⊢
            refine ⟨hrow.1, hrow.2.1, hrow.2.2.1, fun _ => ?_, (fun h => by cases h)⟩
            cases own with
            | false => exact Nat.lt_of_lt_of_le (hrow.2.2.2.1 rfl) hB
            | true =>
              obtain ⟨_, _, _, arr, ha, _⟩ := hrow.2.2.2.2 rfl
              exact (Array.getElem?_eq_some_iff.1 ha).1
      · obtain ⟨r, hr', rfl⟩ := isrow i k hk; cases hn
      · obtain ⟨r, hr', rfl⟩ := isrow b k hb; cases ho
    rw [hargs]
    refine (h a hp (argEnv E ns) w hcan (I.mono _ _ _ hI hB)).mono fun e w' hh => ?_
    obtain ⟨E', ns', rfl, hbel, hres⟩ := hh
    have hlen : (R.rows (g a)).length = R.n := R.rlen _
    let Ef := resEnv E E' nb R.n al ns'
    have outside : ∀ x, (m x).isSome = true → ¬ (nb ≤ x ∧ x < nb + R.n ∧ alias al (x - nb) = none) := by
      rintro x hx ⟨x1, x2, x3⟩
      have hj : x - nb < (R.rows (g a)).length := by rw [hlen]; omega
      have : x ∈ (newsR nb al 0 (R.rows (g a))).map (·.1) := by
        refine List.mem_map.2 ⟨(x, .row true ((R.rows (g a))[x - nb]).t ((R.rows (g a))[x - nb]).l), newsR_mem.2 ⟨x - nb, _, List.getElem?_eq_getElem hj, by simpa using x3, ?_⟩, rfl⟩
        congr 1; omega
      have := hf x this
      rw [this] at hx; cases hx
    have hA : Agree E Ef m := fun x hx => by
      have := outside x hx
      simp only [Ef, resEnv, if_neg this, and_self]
    have inside : ∀ j, j < R.n → alias al j = none → Ef.at_ (nb + j) = (match nmOf ns' j with
        | some b => E'.at_ b
        | none => none) ∧ Ef.len (nb + j) = (match nmOf ns' j with
        | some b => E'.len b
        | none => 0) ∧ Ef.cap (nb + j) = (match nmOf ns' j with
        | some b => E'.cap b
        | none => 0) := by
      intro j hj ha
      have hc : nb ≤ nb + j ∧ nb + j < nb + R.n ∧ alias al j = none := ⟨by omega, by omega, ha⟩
      simp only [Ef, resEnv, Nat.add_sub_cancel_left, if_pos hc, and_self]
    have nk : ∀ u ∈ newsR nb al 0 (R.rows (g a)), BlkOk tid B Ef w' u.1 u.2 ∧ (u.2.own = true → ∀ i f, Ef.at_ u.1 = some (i, f) → w.heap.size ≤ i) := by
      intro u hu
      obtain ⟨j, r, h1, h2, rfl⟩ := newsR_mem.1 hu
      rw [Nat.zero_add] at h2
      have hj : j < R.n := by rw [← hlen]; exact (List.getElem?_eq_some_iff.1 h1).1
      obtain ⟨i1, i2, i3⟩ := inside j hj h2
      simp only [Nat.zero_add]
      show RowOk tid B Ef w' (nb + j) true r.t r.l ∧ _
      unfold RowOk
      rw [i1, i2, i3]
      cases hnm' : nmOf ns' j with
      | none => exact ⟨hres.nil j r h1 h2 hnm', fun _ i f hi => by cases hi⟩
      | some b =>
        have hrow := hres.row j r b h1 h2 hnm'
        unfold RowOk at hrow
        simp only
        cases hk : E'.at_ b with
        | none => rw [hk] at hrow; exact ⟨hrow, fun _ i f hi => by cases hi⟩
        | some q =>
          obtain ⟨q1, q2⟩ := q
          rw [hk] at hrow
          simp only at hrow ⊢
          obtain ⟨p1, p2, p3, p4, p5⟩ := hrow
          refine ⟨⟨p1, p2, p3, (fun h => by cases h), fun _ => ⟨Nat.le_trans hB (p5 trivial).1, (p5 trivial).2⟩⟩, fun _ i f hi => ?_⟩
          cases hi; exact (p5 trivial).1
    refine ⟨Ef, ?_, hA, ?_, ⟨hbel.os, hbel.tape, hbel.output, hbel.size, fun i hi => hbel.block i (Nat.lt_of_lt_of_le hi hB)⟩, ?_⟩
    · congr 1
      refine outP_emb (R.emb _ _ _ _ _ fun j hj => ?_)
      unfold nmR
      cases ha : alias al j with
      | some i =>
        have h1 := hres.old j i (by omega) ha
        rw [h1, argEnv_name]
        have hi : i < A.n := hal j i hj ha
        have hri : i < (A.rows a).length := by rw [A.rlen]; exact hi
        have hh := held i _ (List.getElem?_eq_getElem hri)
        unfold Held at hh
        show nameV E (nmOf ns i) = nameV Ef (nmOf ns i)
        cases hnm' : nmOf ns i with
        | none => rfl
        | some b =>
          rw [hnm'] at hh
          obtain ⟨own, hb⟩ := hh
          have := hA b (by rw [hb]; rfl)
          simp only [nameV, PV.emb, this.1, this.2.1, this.2.2]
      | none =>
        obtain ⟨i1, i2, i3⟩ := inside j hj ha
        simp only [nameV, PV.emb, i1, i2, i3]
        cases nmOf ns' j with
        | none => rfl
        | some b => rfl
    · rw [List.append_nil]
      refine hM.more hB hA (fun i hi => hbel.block i hi) _ hf (fun u hu n hn => ?_) (by simpa using hnd) (fun u hu => ?_) (fun u hu v hv hne o1 o2 x y fx fy hx hy => ?_)
      · obtain ⟨j, r, h1, h2, rfl⟩ := newsR_mem.1 hu; cases hn
      · exact nk u hu
      · obtain ⟨j, r, h1, h2, rfl⟩ := newsR_mem.1 hu
        obtain ⟨k, r', h3, h4, rfl⟩ := newsR_mem.1 hv
        simp only [Nat.zero_add] at h2 h4 hx hy hne
        have hj : j < R.n := by rw [← hlen]; exact (List.getElem?_eq_some_iff.1 h1).1
        have hk : k < R.n := by rw [← hlen]; exact (List.getElem?_eq_some_iff.1 h3).1
        rw [(inside j hj h2).1] at hx
        rw [(inside k hk h4).1] at hy
        cases hb : nmOf ns' j with
        | none => rw [hb] at hx; cases hx
        | some b =>
          cases hc : nmOf ns' k with
          | none => rw [hc] at hy; cases hy
          | some c =>
            rw [hb] at hx; rw [hc] at hy
            exact hres.apart j k b c x y fx fy (fun e => hne (by rw [e])) (by omega) (by omega) h2 h4 hb hc hx hy
    · rw [List.append_nil]; exact Fr.more hA (fun i hi => hbel.block i hi) _ fun u hu => (nk u hu).2
  · cases hr
/-- What the evaluation of a function comes to, as data. -/
def unP (n : Nat) (v : PV) : Option (List PV) := match n with
  | 1 => some [v]
  | _ => match v with
    | .tup l => some l
    | _ => none
theorem unP_ok {n : Nat} {v : PV} {l : List PV} (h : unP n v = some l) : v = outP n l := by
  unfold unP at h
  unfold outP
  split at h
  · cases h; rfl
  · split at h
    · cases h; rfl
    · cases h
def okRes (al : List (Option Nat)) (m : Nat → Option Blk) : Nat → List (Option Nat) → List Nat → Bool
  | _, [], seen => true
  | j, o :: r, seen => match alias al j, o with
    | some i, some b => Nat.beq b i && okRes al m (j + 1) r seen
    | some _, none => false
    | none, none => okRes al m (j + 1) r seen
    | none, some b => (match m b with
      | some (.row own _ _) => own
      | _ => false) && !has seen b && okRes al m (j + 1) r (b :: seen)
theorem okRes_ok {al : List (Option Nat)} {m : Nat → Option Blk} : ∀ {ns : List (Option Nat)} {j : Nat} {seen : List Nat}, okRes al m j ns seen = true →
    (∀ k o, ns[k]? = some o → match alias al (j + k) with
      | some i => o = some i
      | none => ∀ b, o = some b → (∃ t l, m b = some (.row true t l)) ∧ b ∉ seen) ∧
    ∀ k k' b c, k ≠ k' → alias al (j + k) = none → alias al (j + k') = none → ns[k]? = some (some b) → ns[k']? = some (some c) → b ≠ c
  | [], j, seen, h => ⟨fun k o hk => by simp at hk, fun k k' b c _ _ _ hk => by simp at hk⟩
  | o :: r, j, seen, h => by
    simp only [okRes] at h
    split at h
    · rename_i i b ha
      rw [Bool.and_eq_true] at h
      have hb : b = i := Nat.beq_eq ▸ h.1
      obtain ⟨i1, i2⟩ := okRes_ok h.2
      refine ⟨fun k o hk => ?_, fun k k' b' c hne a1 a2 h1 h2 => ?_⟩
      · rcases k with _ | k
        · simp at hk; subst hk; rw [Nat.add_zero, ha, hb]
        · rw [show j + (k + 1) = j + 1 + k from by omega]; exact i1 k o (by simpa using hk)
      · rcases k with _ | k
        · rw [Nat.add_zero, ha] at a1; cases a1
        · rcases k' with _ | k'
          · rw [Nat.add_zero, ha] at a2; cases a2
          · rw [show j + (k + 1) = j + 1 + k from by omega] at a1
            rw [show j + (k' + 1) = j + 1 + k' from by omega] at a2
            exact i2 k k' b' c (by omega) a1 a2 (by simpa using h1) (by simpa using h2)
    · cases h
    · rename_i ha
      obtain ⟨i1, i2⟩ := okRes_ok h
      refine ⟨fun k o hk => ?_, fun k k' b' c hne a1 a2 h1 h2 => ?_⟩
      · rcases k with _ | k
        · simp at hk; subst hk; rw [Nat.add_zero, ha]; intro b hb; cases hb
        · rw [show j + (k + 1) = j + 1 + k from by omega]; exact i1 k o (by simpa using hk)
      · rcases k with _ | k
        · simp at h1
        · rcases k' with _ | k'
          · simp at h2
          · rw [show j + (k + 1) = j + 1 + k from by omega] at a1
            rw [show j + (k' + 1) = j + 1 + k' from by omega] at a2
            exact i2 k k' b' c (by omega) a1 a2 (by simpa using h1) (by simpa using h2)
    · rename_i b ha
      rw [Bool.and_eq_true, Bool.and_eq_true] at h
      obtain ⟨⟨hm, hs⟩, h⟩ := h
      have hrow : ∃ t l, m b = some (.row true t l) := by
        split at hm
        · rename_i own t l hmb; exact ⟨t, l, by rw [hmb, hm]⟩
        · cases hm
      have hs : b ∉ seen := by simpa only [Bool.not_eq_true', ← Bool.not_eq_true, has_iff] using hs
      obtain ⟨i1, i2⟩ := okRes_ok h
      have later : ∀ k c, r[k]? = some (some c) → alias al (j + 1 + k) = none → c ≠ b := by
        intro k c hk hal e
        have := i1 k _ hk
        rw [hal] at this
        exact (this c rfl).2 (by rw [e]; exact List.mem_cons_self)
      refine ⟨fun k o hk => ?_, fun k k' b' c hne a1 a2 h1 h2 => ?_⟩
      · rcases k with _ | k
        · simp at hk; subst hk; rw [Nat.add_zero, ha]; intro b' hb; cases hb; exact ⟨hrow, hs⟩
        · rw [show j + (k + 1) = j + 1 + k from by omega]
          have := i1 k o (by simpa using hk)
          split at this
          · exact this
          · intro b' hb
            exact ⟨(this b' hb).1, fun hm => (this b' hb).2 (List.mem_cons_of_mem _ hm)⟩
      · rcases k with _ | k
        · simp at h1
          subst h1
          rcases k' with _ | k'
          · exact absurd rfl hne
          · rw [show j + (k' + 1) = j + 1 + k' from by omega] at a2
            exact Ne.symm (later k' c (by simpa using h2) a2)
        · rw [show j + (k + 1) = j + 1 + k from by omega] at a1
          rcases k' with _ | k'
          · simp at h2
            subst h2
            exact later k b' (by simpa using h1) a1
          · rw [show j + (k' + 1) = j + 1 + k' from by omega] at a2
            exact i2 k k' b' c (by omega) a1 a2 (by simpa using h1) (by simpa using h2)
def finR (R : ACod γ) (al : List (Option Nat)) (r : PV × St) : Tr γ := match unP R.len r.1 with
  | some l => match R.dec r.2.mem l with
    | some (c, ns) => bif okRes al r.2.mem 0 ns [] then .ret c else .bad 84
    | none => .bad 85
  | none => .bad 86
def evR (P : Program) (O : Orc) (fn : Func) (Ls : List LSpec) (A : ACod α) (R : ACod γ) (al : List (Option Nat)) (a : α) : Tr γ :=
  (evFunc P (mkDoer P O 100) fn Ls (List.range A.n) [] (A.enc some a) (canon A a)).bind (finR R al)
theorem CR.ev (Ls : α → List LSpec) {P : Program} {tid : ET → TypeId} {I : WInv} {f : FuncId} {fn : Func} {O : Orc} {A : ACod α} {R : ACod γ} {al : List (Option Nat)} {pre : α → Prop} {g : α → γ} (hm : P.follows .mixedOrders = true) (hO : OrcOk P tid I O) (hf : P.funcs[f]? = some fn)
    (hn : ∀ a, (A.enc some a).length ≤ fn.ntmps) (hal' : okAl R.n al A.n = true) (h : ∀ a, pre a → Good (evR P O fn (Ls a) A R al a) fun c => c = g a) : CR P tid I f A R al pre g := by
  have hal := okAl_ok hal'
  intro a hp E w hM hI
  have h1 := (h a hp).h
  unfold evR at h1
  rw [Tr.holds_bind] at h1
  have dom : ∀ i, i < A.n → (canon A a i).isSome = true := by
    intro i hi
    unfold canon
    rw [List.getElem?_eq_getElem (by rw [A.rlen]; exact hi)]
    rfl
  refine (func_ok hm (core_ok hO 100) (mkDoer_local P O 100) hf (hn a) (M := List.range A.n) (fun u hu n hnn => ?_) (Nat.le_refl _) hM hI (fun b hb => ?_) (fun b hb => ?_) h1).mono ?_
  · obtain ⟨i, hi, e⟩ := A.names some a n ((namess_mem _).2 ⟨u, hu, hnn⟩)
    have e : i = n := Option.some.inj e
    rw [← e]
    exact dom i hi
  · unfold canon at hb
    split at hb
    · rename_i r hr
      have := (List.getElem?_eq_some_iff.1 hr).1
      rw [A.rlen] at this
      exact List.mem_range.2 this
    · cases hb
  · cases hb
  · rintro e w' ⟨v, s, E', a', rfl, hfin, hr, _⟩
    unfold finR at hfin
    split at hfin
    · rename_i l hl
      split at hfin
      · rename_i c ns hc
        cases hk : okRes al s.mem 0 ns [] <;> simp only at hfin <;> rw [hk] at hfin
        · exact hfin.elim
        · have hfin : c = g a := hfin
          subst hfin
          obtain ⟨r1, r2, r3⟩ := R.ok _ _ _ _ hc
          obtain ⟨k1, k2⟩ := okRes_ok hk
          have hl' := unP_ok hl
          simp only at hl'
          have hlen : (R.rows (g a)).length = R.n := R.rlen _
          have nm : ∀ j o, nmOf ns j = some o → ns[j]? = some (some o) := by
            intro j o hj
            unfold nmOf at hj
            split at hj
            · rename_i x hx; rw [hx, hj]
            · cases hj
          refine ⟨E', ns, by rw [hl', ← r1], hr.below, ⟨fun j i hj ha => ?_, fun j r hj ha hn0 => ?_, fun j r b hj ha hb => ?_, fun j k b c x y fx fy hne hj hk' a1 a2 hb hc' hx hy => ?_⟩⟩
          · have hjn : j < ns.length := by rw [r2, ← hlen]; exact hj
            have := k1 j _ (List.getElem?_eq_getElem hjn)
            rw [Nat.zero_add, ha] at this
            have e1 : nmOf ns j = some i := by unfold nmOf; rw [List.getElem?_eq_getElem hjn]; exact this
            have hA := hr.from_ i (dom i (hal j i (by rw [← hlen]; exact hj) ha))
            rw [e1]
            simp only [nameV, PV.emb, hA.1, hA.2.1, hA.2.2]
          · have := r3 j r hj
            rw [hn0] at this
            exact this
          · have h2 := r3 j r hj
            rw [hb] at h2
            obtain ⟨own, ho⟩ := h2
            have h3 := k1 j _ (nm j b hb)
            rw [Nat.zero_add, ha] at h3
            obtain ⟨⟨t, l, htl⟩, _⟩ := h3 b rfl
            rw [ho] at htl
            have : own = true := by injection htl with h; injection h
            subst this
            exact hr.mem.blk b _ ho
          · have hbc := k2 j k b c hne (by rw [Nat.zero_add]; exact a1) (by rw [Nat.zero_add]; exact a2) (nm j b hb) (nm k c hc')
            have o1 := k1 j _ (nm j b hb)
            rw [Nat.zero_add, a1] at o1
            have o2 := k1 k _ (nm k c hc')
            rw [Nat.zero_add, a2] at o2
            obtain ⟨⟨t, l, h1⟩, _⟩ := o1 b rfl
            obtain ⟨⟨t', l', h2⟩, _⟩ := o2 c rfl
            exact hr.mem.apart b c _ _ x y fx fy hbc h1 h2 rfl rfl hx hy
      · exact hfin.elim
    · exact hfin.elim
end
/-- A contract over rows, as an entry. -/
def eR {α γ : Type} {P : Program} {tid : ET → TypeId} {I : WInv} {f : FuncId} {fn : Func} {A : ACod α} {R : ACod γ} {al : List (Option Nat)} {pre : α → Prop} [DecidablePred pre] {g : α → γ} (h : CR P tid I f A R al pre g) (hf : P.funcs[f]? = some fn)
    (hal : okAl R.n al A.n = true := by rfl) (hn : (fn.name == "runtime.NumGoroutine") = false := by rfl) (hb : fn.body.isNone = false := by rfl) : Ent P tid I := ⟨f, MR A R al pre g, h.ok hal (enters hf hn hb)⟩
/-- A loop in which one whole number changes. -/
def intLoop (t : Nat) (inv : Int → Prop) (μ : Int → Nat) : LSpec where
  σ := Int
  keysT := [t]
  enc _ i := ([.int .i64 i], [])
  rd _ s := match s.tmps t with
    | some (.raw (.int _ i)) => some (i, [])
    | _ => none
  inv _ := inv
  μ _ := μ
end Go.Proofs.YtpbklojdmkpkcaaDoor
/- The evaluator: a call walked in its place. -/
namespace Go.Proofs.YtpbklojdmkpkcaaDoor
open Go Go.RowKit
set_option linter.unusedVariables false
set_option linter.unusedSimpArgs false

def uniq : List Nat → List Nat → List Nat
  | [], acc => acc
  | n :: r, acc => match has acc n with
    | true => uniq r acc
    | false => uniq r (n :: acc)
/-- The blocks of its own that a call may turn. -/
def turnsOf (m : Nat → Option Blk) (s : St) (W : List Nat) : List Nat → List (Nat × Blk)
  | [] => []
  | n :: r => match m n with
    | some k => bif k.own && has W n then (n, (s.mem n).getD .gone) :: turnsOf m s W r else turnsOf m s W r
    | none => turnsOf m s W r
/-- The blocks that are new. -/
def newsOf (s : St) (R : List Nat) : List Nat → List (Nat × Blk)
  | [] => []
  | n :: r => bif has R n then newsOf s R r else match s.mem n with
    | some k => (n, k) :: newsOf s R r
    | none => newsOf s R r
def inlOut (m : Nat → Option Blk) (R W : List Nat) (v : PV) (s : St) : Tr Out :=
  let ups := turnsOf m s W (uniq R [])
  let news := newsOf s R (uniq (reach s.mem 4 (v.names ++ ups.flatMap (·.2.names))) [])
  bif v.ok (fun n => has R n || has (news.map (·.1)) n) && (news ++ ups).all (fun u => u.2.ok fun n => has R n || has (news.map (·.1)) n) then .ret { put := v, news := news, ups := ups } else .bad 101
def inlLb (m : Nat → Option Blk) (R W : List Nat) : List Nat := R.filter fun n => !has W n
def inlM (P : Program) (O : Orc) (fn : Func) (Ls : List PV → List LSpec) (W : List PV → List Nat) : Mdl := fun nb args m =>
  let R := reach m 3 (PV.namess args)
  bif R.all (fun b => (m b).isSome && (namesIn m b).all (has R)) && Nat.ble args.length fn.ntmps then
    (evFunc P (mkDoer P O (nb * 1000000)) fn (Ls args) R (inlLb m R (W args)) args (restr m R)).bind fun r => inlOut m R (W args) r.1 r.2
  else .bad 102
theorem run_holds {α : Type} {a : α} : ∀ {t : Tr α}, t.run = some a → t.holds fun x => x = a
  | .ret b, h => by cases h; rfl
  | .ite c t e, h => by
    cases c
    · exact ⟨(fun h => by cases h), fun _ => run_holds (t := e) h⟩
    · exact ⟨fun _ => run_holds (t := t) h, (fun h => by cases h)⟩
  | .need p t, h => ⟨(run_need h).1, run_holds (run_need h).2⟩
  | .chk c t, h => ⟨(run_chk h).1, run_holds (run_chk h).2⟩
  | .all _ _ _, h => by cases h
  | .done, h => by cases h
  | .bad _, h => by cases h
theorem uniq_mem {n : Nat} : ∀ {l acc : List Nat}, n ∈ uniq l acc ↔ n ∈ l ∨ n ∈ acc
  | [], acc => by simp [uniq]
  | x :: r, acc => by
    unfold uniq
    split
    · rename_i h
      rw [uniq_mem, List.mem_cons]
      rw [has_iff] at h
      constructor
      · rintro (h1 | h1)
        · exact .inl (.inr h1)
        · exact .inr h1
      · rintro ((rfl | h1) | h1)
        · exact .inr h
        · exact .inl h1
        · exact .inr h1
    · rw [uniq_mem, List.mem_cons, List.mem_cons]
      constructor
      · rintro (h1 | h1 | h1)
        · exact .inl (.inr h1)
        · exact .inl (.inl h1)
        · exact .inr h1
      · rintro ((h1 | h1) | h1)
        · exact .inr (.inl h1)
        · exact .inl h1
        · exact .inr (.inr h1)
theorem turnsOf_mem {m : Nat → Option Blk} {s : St} {W : List Nat} {b : Nat} {k : Blk} : ∀ {l : List Nat}, (b, k) ∈ turnsOf m s W l ↔ b ∈ l ∧ b ∈ W ∧ (∃ k0, m b = some k0 ∧ k0.own = true) ∧ k = (s.mem b).getD .gone
  | [] => by simp [turnsOf]
  | x :: r => by
    have ih := turnsOf_mem (m := m) (s := s) (W := W) (b := b) (k := k) (l := r)
    unfold turnsOf
    split
    · rename_i k0 hk
      cases hc : (k0.own && has W x)
      · simp only [cond_false]
        rw [ih, List.mem_cons]
        constructor
        · rintro ⟨h1, h2⟩; exact ⟨.inr h1, h2⟩
        · rintro ⟨rfl | h1, h2, ⟨k1, h3, h4⟩, h5⟩
          · rw [hk] at h3; cases h3
            rw [h4, has_iff.2 h2] at hc; cases hc
          · exact ⟨h1, h2, ⟨k1, h3, h4⟩, h5⟩
      · simp only [cond_true, List.mem_cons, Prod.mk.injEq]
        rw [Bool.and_eq_true, has_iff] at hc
        rw [ih]
        constructor
        · rintro (⟨rfl, rfl⟩ | ⟨h1, h2⟩)
          · exact ⟨.inl rfl, hc.2, ⟨k0, hk, hc.1⟩, rfl⟩
          · exact ⟨.inr h1, h2⟩
        · rintro ⟨rfl | h1, h2, h3, h4⟩
          · exact .inl ⟨rfl, h4⟩
          · exact .inr ⟨h1, h2, h3, h4⟩
    · rename_i hk
      rw [ih, List.mem_cons]
      constructor
      · rintro ⟨h1, h2⟩; exact ⟨.inr h1, h2⟩
      · rintro ⟨rfl | h1, h2, ⟨k1, h3, h4⟩, h5⟩
        · rw [hk] at h3; cases h3
        · exact ⟨h1, h2, ⟨k1, h3, h4⟩, h5⟩
theorem newsOf_mem {s : St} {R : List Nat} {b : Nat} {k : Blk} : ∀ {l : List Nat}, (b, k) ∈ newsOf s R l → b ∉ R ∧ s.mem b = some k
  | x :: r, h => by
    unfold newsOf at h
    cases hx : has R x <;> rw [hx] at h
    · simp only [cond_false] at h
      split at h
      · rename_i k' hk
        rcases List.mem_cons.1 h with h | h
        · cases h
          exact ⟨(fun hm => by rw [has_iff.2 hm] at hx; cases hx), hk⟩
        · exact newsOf_mem h
      · exact newsOf_mem h
    · exact newsOf_mem h
section
variable {P : Program} {tid : ET → TypeId} {I : WInv}
theorem inl_ok {O : Orc} {f : FuncId} {fn : Func} (Ls : List PV → List LSpec) (W : List PV → List Nat) (hm : P.follows .mixedOrders = true) (hO : OrcOk P tid I O) (hf : P.funcs[f]? = some fn) (he : Enters P f) : CallOk P tid I f (inlM P O fn Ls W) := by
  refine ⟨he, fun nb B args m R0 out E w hn hM hB hI hr hfr hu hnm hnd => ?_⟩
  unfold inlM at hr
  simp only at hr
  generalize hmr : restr m R0 = mr at hr
  generalize hR : reach mr 3 (PV.namess args) = R at hr
  have sub0 : ∀ {b k}, mr b = some k → m b = some k := fun h => restr_sub (R := R0) (by rw [hmr]; exact h)
  cases hc : (R.all (fun b => (mr b).isSome && (namesIn mr b).all (has R)) && Nat.ble args.length fn.ntmps) <;> rw [hc] at hr
  · cases hr
  rw [Bool.and_eq_true, List.all_eq_true, Nat.ble_eq] at hc
  obtain ⟨hcl, hlen⟩ := hc
  have hcl1 : ∀ b ∈ R, (mr b).isSome = true := fun b hb => by have := hcl b hb; rw [Bool.and_eq_true] at this; exact this.1
  have hcl2 : ∀ b ∈ R, ∀ k, mr b = some k → ∀ n ∈ k.names, n ∈ R := fun b hb k hk n hnn => by
    have := hcl b hb
    rw [Bool.and_eq_true, List.all_eq_true] at this
    have := this.2 n (by unfold namesIn; rw [hk]; exact hnn)
    exact has_iff.1 this
  simp only [cond_true] at hr
  rw [Tr.run_bind, Option.bind_eq_some_iff] at hr
  obtain ⟨⟨v, s⟩, hrun, hr⟩ := hr
  generalize hm1 : restr mr R = m1 at hrun
  have m1_is : ∀ b k, m1 b = some k ↔ b ∈ R ∧ mr b = some k := by
    intro b k
    rw [← hm1]
    unfold restr
    cases hb : has R b
    · constructor
      · intro h; cases h
      · rintro ⟨h, _⟩; rw [has_iff.2 h] at hb; cases hb
    · exact ⟨fun h => ⟨has_iff.1 hb, h⟩, fun h => h.2⟩
  have m1_dom : ∀ b, (m1 b).isSome = true ↔ b ∈ R := by
    intro b
    constructor
    · intro h
      obtain ⟨k, hk⟩ := Option.isSome_iff_exists.1 h
      exact ((m1_is b k).1 hk).1
    · intro h
      obtain ⟨k, hk⟩ := Option.isSome_iff_exists.1 (hcl1 b h)
      rw [(m1_is b k).2 ⟨h, hk⟩]; rfl
  have m1_m : ∀ {b k}, m1 b = some k → m b = some k := fun h => sub0 ((m1_is _ _).1 h).2
  have hM1 : MemRel tid B E m1 w := ⟨fun b k hb => hM.blk b k (m1_m hb), fun b k hb n hnn => (m1_dom n).2 (hcl2 b ((m1_is b k).1 hb).1 k ((m1_is b k).1 hb).2 n hnn),
    fun b c k k' i j f g hne hb hc => hM.apart b c k k' i j f g hne (m1_m hb) (m1_m hc)⟩
  have hn1 : ∀ v ∈ args, ∀ n ∈ v.names, (m1 n).isSome = true := fun v hv n hnn => (m1_dom n).2 (by
    rw [← hR]; exact reach_sub n ((namess_mem _).2 ⟨v, hv, hnn⟩))
  refine (func_ok hm (core_ok hO (nb * 1000000)) (mkDoer_local P O (nb * 1000000)) hf hlen hn1 hB hM1 hI (fun b hb => (m1_dom b).1 hb) (fun n hnl => (m1_dom n).2 (List.mem_filter.1 hnl).1) (run_holds hrun)).mono ?_
  rintro e w' ⟨v', s', E', a', rfl, hvs, hrel, hlb⟩
  cases hvs
  unfold inlOut at hr
  simp only at hr
  generalize hups : turnsOf mr s (W args) (uniq R []) = ups at hr
  generalize hnews : newsOf s R (uniq (reach s.mem 4 (v.names ++ ups.flatMap (·.2.names))) []) = news at hr
  cases hk : (v.ok (fun n => has R n || has (news.map (·.1)) n) && (news ++ ups).all (fun u => u.2.ok fun n => has R n || has (news.map (·.1)) n)) <;> rw [hk] at hr
  · cases hr
  simp only [cond_true, run_ret, Option.some.injEq] at hr
  subst hr
  simp only at hfr hu hnm hnd ⊢
  rw [Bool.and_eq_true, List.all_eq_true, PV.ok_iff] at hk
  obtain ⟨hk1, hk2⟩ := hk
  have hups_mem : ∀ b k, (b, k) ∈ ups → b ∈ R ∧ b ∈ W args ∧ s.mem b = some k := by
    intro b k h
    rw [← hups, turnsOf_mem, uniq_mem] at h
    obtain ⟨h1, h2, _, h4⟩ := h
    have hb : b ∈ R := h1.resolve_right (by simp)
    obtain ⟨k', hk'⟩ := Option.isSome_iff_exists.1 (hrel.dom b ((m1_dom b).2 hb))
    rw [hk'] at h4
    exact ⟨hb, h2, by rw [hk', h4]; rfl⟩
  have hnews_mem : ∀ b k, (b, k) ∈ news → b ∉ R ∧ s.mem b = some k := by
    intro b k h
    rw [← hnews] at h
    exact newsOf_mem h
  let E2 : Env := { at_ := fun n => if (m n).isSome = true then E.at_ n else E'.at_ n, len := fun n => if (m n).isSome = true then E.len n else E'.len n, cap := fun n => if (m n).isSome = true then E.cap n else E'.cap n }
  have hA : Agree E E2 m := fun b hb => ⟨if_pos hb, if_pos hb, if_pos hb⟩
  have goodR : ∀ n ∈ R, E2.at_ n = E'.at_ n ∧ E2.len n = E'.len n ∧ E2.cap n = E'.cap n := by
    intro n hnR
    have h1 := hrel.from_ n ((m1_dom n).2 hnR)
    have h2 : (m n).isSome = true := by
      obtain ⟨k, hk⟩ := Option.isSome_iff_exists.1 (hcl1 n hnR)
      rw [sub0 hk]; rfl
    have h3 := hA n h2
    exact ⟨h3.1.trans h1.1.symm, h3.2.1.trans h1.2.1.symm, h3.2.2.trans h1.2.2.symm⟩
  have goodN : ∀ n ∈ news.map (·.1), E2.at_ n = E'.at_ n ∧ E2.len n = E'.len n ∧ E2.cap n = E'.cap n := by
    intro n hnN
    have := hfr n hnN
    have h2 : ¬ (m n).isSome = true := by rw [this]; simp
    exact ⟨if_neg h2, if_neg h2, if_neg h2⟩
  have good : ∀ n, (has R n || has (news.map (·.1)) n) = true → E2.at_ n = E'.at_ n ∧ E2.len n = E'.len n ∧ E2.cap n = E'.cap n := by
    intro n h
    rw [Bool.or_eq_true, has_iff, has_iff] at h
    rcases h with h | h
    · exact goodR n h
    · exact goodN n h
  -- what is of the call's end, what is of the caller's
  have kinds : ∀ b k, upds m (news ++ ups) b = some k → (s.mem b = some k ∧ (b ∈ R ∨ b ∈ news.map (·.1)) ∧ (∀ n ∈ k.names, (has R n || has (news.map (·.1)) n) = true)) ∨ (m b = some k ∧ (b ∈ R → k.own = false)) := by
    intro b k h
    rcases upds_cases' _ _ h with h | ⟨h1, h2⟩
    · left
      have hnm' := (Blk.ok_iff _ _).1 (hk2 _ h)
      rcases List.mem_append.1 h with h | h
      · exact ⟨(hnews_mem b k h).2, .inr (List.mem_map.2 ⟨_, h, rfl⟩), hnm'⟩
      · exact ⟨(hups_mem b k h).2.2, .inl (hups_mem b k h).1, hnm'⟩
    · by_cases hb : b ∈ R
      · cases ho : k.own
        · exact .inr ⟨h2, fun _ => rfl⟩
        · left
          obtain ⟨k', hk'⟩ := Option.isSome_iff_exists.1 (hcl1 b hb)
          have e : k' = k := by have := sub0 hk'; rw [h2] at this; exact (Option.some.inj this).symm
          subst e
          have hW : b ∉ W args := by
            intro hW
            refine h1 (List.mem_map.2 ⟨(b, (s.mem b).getD .gone), List.mem_append_right _ ?_, rfl⟩)
            rw [← hups, turnsOf_mem, uniq_mem]
            exact ⟨.inl hb, hW, ⟨k', hk', ho⟩, rfl⟩
          have h3 := hlb b (List.mem_filter.2 ⟨hb, by cases hh : has (W args) b; rfl; exact absurd (has_iff.1 hh) hW⟩)
          rw [(m1_is b k').2 ⟨hb, hk'⟩] at h3
          exact ⟨h3, .inl hb, fun n hnn => by rw [has_iff.2 (hcl2 b hb k' hk' n hnn)]; rfl⟩
      · exact .inr ⟨h2, fun h => absurd h hb⟩
  have envX : ∀ b, (b ∈ R ∨ b ∈ news.map (·.1)) → E2.at_ b = E'.at_ b ∧ E2.len b = E'.len b ∧ E2.cap b = E'.cap b := fun b hb => hb.elim (goodR b) (goodN b)
  have envY : ∀ {b k}, m b = some k → E2.at_ b = E.at_ b := fun h => (hA _ (by rw [h]; rfl)).1
  have locY : ∀ {b k i f}, m b = some k → k.own = true → E.at_ b = some (i, f) → i < w.heap.size := by
    intro b k i f hb ho hi
    obtain ⟨_, _, c, t, hh⟩ := own_at (hM.blk b k hb) ho hi
    exact (Array.getElem?_eq_some_iff.1 hh).1
  have apartXY : ∀ b k i f c k' j g, s.mem b = some k → k.own = true → E'.at_ b = some (i, f) → m c = some k' → k'.own = true → c ∉ R → E.at_ c = some (j, g) → i ≠ j := by
    intro b k i f c k' j g hb ho hi hc ho' hcR hj e
    have hlt := locY hc ho' hj
    obtain ⟨d, kd, gd, d1, d2, d3⟩ := hrel.frame.orig b k i f hb ho hi (by omega)
    exact hM.apart d c kd k' i j gd g (fun e => hcR (e ▸ ((m1_is d kd).1 d1).1)) (m1_m d1) hc d2 ho' d3 hj e
  refine ⟨E2, ?_, hA, ⟨fun b k hb => ?_, fun b k hb n hnn => ?_, fun b c k k' i j f g hne hb hc ho ho' hi hj => ?_⟩, hrel.below, ⟨fun i hi hno => ?_, fun b k i f hb ho hi hlt => ?_⟩⟩
  · rw [PV.emb_congr v fun n hnn => good n (hk1 n hnn)]
  · rcases kinds b k hb with ⟨h1, h2, h3⟩ | ⟨h1, h2⟩
    · exact (hrel.mem.blk b k h1).keep (envX b h2) (fun n hnn => good n (h3 n hnn)) (fun _ _ _ => rfl)
    · by_cases hg : k = .gone
      · subst hg; trivial
      refine (hM.blk b k h1).keep (hA b (by rw [h1]; rfl)) (agree_names hA (hM.ok b k h1)) fun i f hi => ?_
      cases ho : k.own
      · cases k with
        | cells _ _ => cases ho
        | gone => exact absurd rfl hg
        | row own t l =>
          have ho : own = false := ho
          have hh := hM.blk b _ h1
          unfold BlkOk RowOk at hh
          rw [hi] at hh
          exact hrel.below.block i (hh.2.2.2.1 ho)
      · have hbR : b ∉ R := fun h => by rw [h2 h] at ho; cases ho
        refine hrel.frame.keep i (locY h1 ho hi) fun d kd fd d1 d2 d3 => ?_
        exact hM.apart d b kd k i i fd f (fun e => hbR (e ▸ ((m1_is d kd).1 d1).1)) (m1_m d1) h1 d2 ho d3 hi rfl
  · rw [upds_some]
    rcases upds_cases' _ _ hb with h | ⟨h1, h2⟩
    · have := hnm n (List.mem_append_right _ (List.mem_flatMap.2 ⟨_, h, hnn⟩))
      rcases this with h | h
      · rw [h]; rfl
      · rw [Bool.or_eq_true, has_iff]; right; rw [List.map_append]; exact List.mem_append_left _ h
    · rw [hM.ok b k h2 n hnn]; rfl
  · rcases kinds b k hb with ⟨h1, h2, h3⟩ | ⟨h1, h2⟩ <;> rcases kinds c k' hc with ⟨h4, h5, h6⟩ | ⟨h4, h5⟩
    · rw [(envX b h2).1] at hi
      rw [(envX c h5).1] at hj
      exact hrel.mem.apart b c k k' i j f g hne h1 h4 ho ho' hi hj
    · rw [(envX b h2).1] at hi
      rw [envY h4] at hj
      exact apartXY b k i f c k' j g h1 ho hi h4 ho' (fun h => by rw [h5 h] at ho'; cases ho') hj
    · rw [envY h1] at hi
      rw [(envX c h5).1] at hj
      exact Ne.symm (apartXY c k' j g b k i f h4 ho' hj h1 ho (fun h => by rw [h2 h] at ho; cases ho) hi)
    · rw [envY h1] at hi
      rw [envY h4] at hj
      exact hM.apart b c k k' i j f g hne h1 h4 ho ho' hi hj
  · exact hrel.frame.keep i hi fun b k f h1 h2 h3 => hno b k f (m1_m h1) h2 h3
  · rcases kinds b k hb with ⟨h1, h2, h3⟩ | ⟨h1, h2⟩
    · rw [(envX b h2).1] at hi
      obtain ⟨d, kd, gd, d1, d2, d3⟩ := hrel.frame.orig b k i f h1 ho hi hlt
      exact ⟨d, kd, gd, m1_m d1, d2, d3⟩
    · rw [envY h1] at hi
      exact ⟨b, k, f, h1, ho, hi⟩
/-- A call walked in its place, as an entry. -/
def eI {f : FuncId} {fn : Func} (O : Orc) (hO : OrcOk P tid I O) (W : List PV → List Nat) (hm : P.follows .mixedOrders = true) (hf : P.funcs[f]? = some fn) (hn : (fn.name == "runtime.NumGoroutine") = false := by rfl) (hb : fn.body.isNone = false := by rfl) : Ent P tid I := ⟨f, inlM P O fn (fun _ => []) W, inl_ok _ W hm hO hf (enters hf hn hb)⟩
end
end Go.Proofs.YtpbklojdmkpkcaaDoor
/- The evaluator: contracts of functions that are handed an address of the caller's, and turn what lies there. -/
namespace Go.Proofs.YtpbklojdmkpkcaaDoor
open Go Go.RowKit
set_option linter.unusedVariables false
set_option linter.unusedSimpArgs false

/-- Lists of plain values. -/
structure LCod (α : Type) where
  enc : α → List PV
  dec : List PV → Option α
  names : ∀ a, PV.namess (enc a) = []
  ok : ∀ l a, dec l = some a → l = enc a
def lNil : LCod Unit := ⟨fun _ => [], fun l => match l with
    | [] => some ()
    | _ => none, fun _ => rfl, fun l a h => by
  split at h
  · rfl
  · cases h⟩
def decC {α β : Type} (A : Cod α) (B : LCod β) : List PV → Option (α × β)
  | v :: r => match A.dec v, B.dec r with
    | some a, some b => some (a, b)
    | _, _ => none
  | [] => none
def lCons {α β : Type} (A : Cod α) (B : LCod β) : LCod (α × β) := ⟨fun x => A.enc x.1 :: B.enc x.2, decC A B, fun x => by simp [PV.namess, A.names, B.names], fun l x h => by
  unfold decC at h
  split at h
  · split at h
    · rename_i a b ha hb
      cases h
      rw [A.ok _ _ ha, B.ok _ _ hb]
    · cases h
  · cases h⟩
/-- Numbers side by side. -/
def lInts {α : Type} (ks : List IntKind) (mk : List Int → Option α) (un : α → List Int) (h : ∀ is a, mk is = some a → is = un a) : LCod α := ⟨fun a => PV.ints ks (un a), fun l => match intsOf ks l with
    | some is => mk is
    | none => none, fun a => ints_names ks (un a), fun l a hl => by
  split at hl
  · rename_i is hi
    rw [intsOf_cells hi, ints_raws, h _ _ hl]
  · cases hl⟩
def lInt (k : IntKind) : LCod Int := lInts [k] mk1 (fun n => [n]) fun is a h => by
  unfold mk1 at h; split at h
  · cases h; rfl
  · cases h
def insAt (p : Nat) (l : List PV) (v : PV) : List PV := l.take p ++ v :: l.drop p
def one1B (k : Blk) : Nat → Option Blk := fun n => match n with
  | 0 => some k
  | _ + 1 => none
theorem one1B_is {k k' : Blk} {n : Nat} (h : one1B k n = some k') : n = 0 ∧ k' = k := by
  cases n with
  | zero => cases h; exact ⟨rfl, rfl⟩
  | succ n => cases h
section
variable {α σ γ : Type}
def KP (P : Program) (tid : ET → TypeId) (I : WInv) (f : FuncId) (p : Nat) (ty : TypeId) (A : LCod α) (S : LCod σ) (e : γ → PV) (pre : α → σ → Prop) (g : α → σ → γ × σ) : Prop :=
  ∀ a s, pre a s → ∀ (B : Nat) (E : Env) (w : World), B ≤ w.heap.size → I.p B w → MemRel tid B E (one1B (.cells (S.enc s) ty)) w →
    Calls P f ((insAt p (A.enc a) (.ptr 0 0 0 0)).map (PV.emb E)).toArray w fun r w' => r = .returned ((e (g a s).1).emb E) ∧ Below B w w' ∧
      ∃ E', E'.at_ 0 = E.at_ 0 ∧ MemRel tid B E' (one1B (.cells (S.enc (g a s).2) ty)) w' ∧ Fr (one1B (.cells (S.enc s) ty)) E w (one1B (.cells (S.enc (g a s).2) ty)) E' w'
def MP (p : Nat) (ty : TypeId) (A : LCod α) (S : LCod σ) (e : γ → PV) (pre : α → σ → Prop) [∀ a s, Decidable (pre a s)] (g : α → σ → γ × σ) : Mdl := fun nb args m => match args[p]? with
  | some (.ptr b sz i off) => match m b with
    | some (.cells cs ty') => bif Nat.beq ty' ty && Nat.beq (i * sz + off) 0 then match A.dec (args.take p ++ args.drop (p + 1)), S.dec cs with
        | some a, some s => .chk (decide (pre a s)) (.ret { put := e (g a s).1, ups := [(b, .cells (S.enc (g a s).2) ty')] })
        | _, _ => .bad 110
      else .bad 111
    | _ => .bad 112
  | _ => .bad 113
theorem KP.ok {P : Program} {tid : ET → TypeId} {I : WInv} {f : FuncId} {p : Nat} {ty : TypeId} {A : LCod α} {S : LCod σ} {e : γ → PV} [hBe : Bare e] {pre : α → σ → Prop} [∀ a s, Decidable (pre a s)] {g : α → σ → γ × σ} (he : Enters P f) (h : KP P tid I f p ty A S e pre g) : CallOk P tid I f (MP p ty A S e pre g) := by
  refine ⟨he, fun nb B args m R out E w hn hM hB hI hr hf hu hnm hnd => ?_⟩
  unfold MP at hr
  split at hr
  · rename_i b sz i off harg
    split at hr
    · rename_i cs ty' hb
      have hb := restr_sub hb
      cases hc : (Nat.beq ty' ty && Nat.beq (i * sz + off) 0) <;> rw [hc] at hr
      · cases hr
      rw [Bool.and_eq_true] at hc
      have ht : ty' = ty := Nat.beq_eq ▸ hc.1
      have ho : i * sz + off = 0 := Nat.beq_eq ▸ hc.2
      subst ht
      simp only [cond_true] at hr
      split at hr
      · rename_i a s ha hs
        obtain ⟨hp, hr⟩ := run_chk hr
        rw [decide_eq_true_iff] at hp
        cases hr
        have hs := S.ok _ _ hs
        subst hs
        have ha := A.ok _ _ ha
        obtain ⟨k, hk, hBk, hw⟩ := hM.blk b _ hb
        have noS : ∀ (s : σ) (E E' : Env), PV.embs E (S.enc s) = PV.embs E' (S.enc s) := fun s E E' => PV.embs_congr _ fun n hnn => by rw [S.names] at hnn; cases hnn
        let E1 : Env := ⟨fun n => if n = 0 then E.at_ b else none, fun _ => 0, fun _ => 0⟩
        have hE1 : E1.at_ 0 = some (k, 0) := by simp only [E1, if_true]; exact hk
        have hM1 : MemRel tid B E1 (one1B (.cells (S.enc s) ty')) w := by
          refine ⟨fun n kk hh => ?_, fun n kk hh x hx => ?_, fun n c kk kc x y ff gg hne h1 h2 => ?_⟩
          · obtain ⟨rfl, rfl⟩ := one1B_is hh
            exact ⟨k, hE1, hBk, by rw [noS s E1 E]; exact hw⟩
          · obtain ⟨rfl, rfl⟩ := one1B_is hh
            rw [show (Blk.cells (S.enc s) ty').names = PV.namess (S.enc s) from rfl, S.names] at hx; cases hx
          · obtain ⟨rfl, _⟩ := one1B_is h1
            obtain ⟨rfl, _⟩ := one1B_is h2
            exact absurd rfl hne
        have hlt : p < args.length := (List.getElem?_eq_some_iff.1 harg).1
        have hargs : args.map (PV.emb E) = (insAt p (A.enc a) (.ptr 0 0 0 0)).map (PV.emb E1) := by
          have e1 : args = insAt p (A.enc a) (.ptr b sz i off) := by
            unfold insAt
            rw [← ha]
            have hl : (args.take p).length = p := by simp; omega
            rw [List.take_append_of_le_length (by omega), List.drop_append_of_le_length (by omega), List.take_take, Nat.min_self, (List.drop_eq_nil_of_le (by simp only [List.length_take]; omega) : (args.take p).drop p = []), List.nil_append]
            have := List.getElem?_eq_some_iff.1 harg
            rw [← this.2, List.getElem_cons_drop, List.take_append_drop]
          have plain : ∀ l : List PV, (∀ v ∈ l, v.names = []) → l.map (PV.emb E) = l.map (PV.emb E1) := fun l hl => List.map_congr_left fun v hv => PV.emb_congr v fun n hnn => by rw [hl v hv] at hnn; cases hnn
          have nA : ∀ v ∈ A.enc a, v.names = [] := fun v hv => by
            refine List.eq_nil_iff_forall_not_mem.2 fun n hnn => ?_
            have := (namess_mem (n := n) (A.enc a)).2 ⟨v, hv, hnn⟩
            rw [A.names] at this; cases this
          rw [e1]
          unfold insAt
          rw [List.map_append, List.map_append, List.map_cons, List.map_cons, plain _ (fun v hv => nA v (List.mem_of_mem_take hv)), plain _ (fun v hv => nA v (List.mem_of_mem_drop hv))]
          have e2 : (PV.ptr b sz i off).emb E = (PV.ptr 0 0 0 0).emb E1 := by
            simp only [PV.emb, hk, hE1, Option.getD_some, ho, Nat.mul_zero, Nat.add_zero]
          rw [e2]
        rw [hargs]
        refine (h a s hp B E1 w hB hI hM1).mono fun r w' hh => ?_
        obtain ⟨rfl, hbel, E', hat, hM', hF⟩ := hh
        have hk' : E'.at_ 0 = some (k, 0) := by rw [hat]; exact hE1
        have only : ∀ c kc ff j, one1B (.cells (S.enc s) ty') c = some kc → E1.at_ c = some (j, ff) → j = k := by
          intro c kc ff j h1 h2
          obtain ⟨rfl, _⟩ := one1B_is h1
          rw [hE1] at h2; cases h2; rfl
        have klt : k < w.heap.size := (Array.getElem?_eq_some_iff.1 hw).1
        have same : ∀ j, j < w.heap.size → j ≠ k → w'.heap[j]? = w.heap[j]? := fun j hj hne => hF.keep j hj fun c kc ff h1 _ h3 => hne (only c kc ff j h1 h3)
        have is : ∀ c kc, upds m [(b, .cells (S.enc (g a s).2) ty')] c = some kc → (c = b ∧ kc = .cells (S.enc (g a s).2) ty') ∨ (c ≠ b ∧ m c = some kc) := by
          intro c kc hcc
          rcases upds_cases' _ _ hcc with hcc | ⟨h1, h2⟩
          · simp at hcc; exact .inl hcc
          · simp at h1; exact .inr ⟨h1, h2⟩
        have dom : ∀ n, (m n).isSome = true → (upds m [(b, .cells (S.enc (g a s).2) ty')] n).isSome = true := fun n hn => by rw [upds_some, hn]; rfl
        refine ⟨E, ?_, .refl _ _, ⟨fun c kc hcc => ?_, fun c kc hcc n hnn => ?_, fun c d kc kd x y ff gg hne h1 h2 o1 o2 a1 a2 => ?_⟩, hbel, ⟨fun j hj hno => ?_, fun c kc j ff h1 h2 h3 hj => ?_⟩⟩
        · congr 1
          exact PV.emb_congr _ fun n hnn => by rw [hBe.h] at hnn; cases hnn
        · rcases is c kc hcc with ⟨rfl, rfl⟩ | ⟨h1, h2⟩
          · obtain ⟨k2, q1, q2, q3⟩ := hM'.blk 0 _ rfl
            rw [hk'] at q1
            cases q1
            exact ⟨k, hk, hBk, by rw [noS _ E E']; exact q3⟩
          · by_cases hg : kc = .gone
            · subst hg; trivial
            refine (hM.blk c kc h2).keep ⟨rfl, rfl, rfl⟩ (fun _ _ => ⟨rfl, rfl, rfl⟩) fun j ff hj => ?_
            cases hoc : kc.own
            · cases kc with
              | cells _ _ => cases hoc
              | gone => exact absurd rfl hg
              | row own t l =>
                have hoc : own = false := hoc
                have := hM.blk c _ h2
                unfold BlkOk RowOk at this
                rw [hj] at this
                exact hbel.block j (this.2.2.2.1 hoc)
            · obtain ⟨_, _, cu, t, hh⟩ := own_at (hM.blk c kc h2) hoc hj
              exact same j (Array.getElem?_eq_some_iff.1 hh).1 (hM.apart c b kc _ j k ff 0 h1 h2 hb hoc rfl hj hk)
        · rcases is c kc hcc with ⟨rfl, rfl⟩ | ⟨h1, h2⟩
          · rw [show (Blk.cells (S.enc (g a s).2) ty').names = PV.namess (S.enc (g a s).2) from rfl, S.names] at hnn; cases hnn
          · exact dom n (hM.ok c kc h2 n hnn)
        · rcases is c kc h1 with ⟨rfl, rfl⟩ | ⟨c1, c2⟩ <;> rcases is d kd h2 with ⟨rfl, rfl⟩ | ⟨d1, d2⟩
          · exact absurd rfl hne
          · exact hM.apart c d _ kd x y ff gg hne hb d2 rfl o2 a1 a2
          · exact hM.apart c d kc _ x y ff gg hne c2 hb o1 rfl a1 a2
          · exact hM.apart c d kc kd x y ff gg hne c2 d2 o1 o2 a1 a2
        · refine same j hj fun e => hno b _ 0 hb rfl (by rw [e]; exact hk)
        · rcases is c kc h1 with ⟨rfl, rfl⟩ | ⟨c1, c2⟩
          · exact ⟨c, _, ff, hb, rfl, h3⟩
          · exact ⟨c, kc, ff, c2, h2, h3⟩
      · cases hr
    · cases hr
  · cases hr
/-- What the evaluation comes to. -/
def evP (P : Program) (O : Orc) (fn : Func) (Ls : List LSpec) (p : Nat) (ty : TypeId) (A : LCod α) (S : LCod σ) (a : α) (s : σ) : Tr (PV × σ) :=
  (evFunc P (mkDoer P O 100) fn Ls [0] [] (insAt p (A.enc a) (.ptr 0 0 0 0)) (one1B (.cells (S.enc s) ty))).bind fun r => match r.2.mem 0 with
    | some (.cells cs ty') => bif Nat.beq ty' ty then match S.dec cs with
        | some s' => .ret (r.1, s')
        | none => .bad 114
      else .bad 115
    | _ => .bad 116
theorem KP.ev {P : Program} {tid : ET → TypeId} {I : WInv} {f : FuncId} {fn : Func} {O : Orc} {p : Nat} {ty : TypeId} {A : LCod α} {S : LCod σ} {e : γ → PV} [hBe : Bare e] {pre : α → σ → Prop} {g : α → σ → γ × σ} (Ls : α → σ → List LSpec) (hm : P.follows .mixedOrders = true) (hO : OrcOk P tid I O) (hf : P.funcs[f]? = some fn)
    (hl : ∀ a, (A.enc a).length + 1 ≤ fn.ntmps) (h : ∀ a s, pre a s → Good (evP P O fn (Ls a s) p ty A S a s) fun r => r = (e (g a s).1, (g a s).2)) : KP P tid I f p ty A S e pre g := by
  intro a s hp B E w hB hI hM
  have h1 := (h a s hp).h
  unfold evP at h1
  rw [Tr.holds_bind] at h1
  refine (func_ok hm (core_ok hO 100) (mkDoer_local P O 100) hf ?_ (M := [0]) (fun u hu n hnn => ?_) hB hM hI (fun b hb => ?_) (fun b hb => ?_) h1).mono ?_
  · unfold insAt
    have := hl a
    simp only [List.length_append, List.length_cons, List.length_take, List.length_drop]; omega
  · unfold insAt at hu
    rcases List.mem_append.1 hu with hu | hu
    · have := (namess_mem (n := n) (A.enc a)).2 ⟨u, List.mem_of_mem_take hu, hnn⟩
      rw [A.names] at this; cases this
    · rcases List.mem_cons.1 hu with rfl | hu
      · simp [PV.names] at hnn; subst hnn; rfl
      · have := (namess_mem (n := n) (A.enc a)).2 ⟨u, List.mem_of_mem_drop hu, hnn⟩
        rw [A.names] at this; cases this
  · cases b with
    | zero => exact List.mem_singleton.2 rfl
    | succ b => cases hb
  · cases hb
  · rintro r w' ⟨v, s1, E', a', rfl, hfin, hr, _⟩
    have h0 : E'.at_ 0 = E.at_ 0 := (hr.from_ 0 rfl).1
    split at hfin
    · rename_i cs ty' hcs
      cases ht : Nat.beq ty' ty <;> rw [ht] at hfin
      · exact hfin.elim
      · have ht : ty' = ty := Nat.beq_eq ▸ ht
        subst ht
        simp only [cond_true] at hfin
        split at hfin
        · rename_i s' hs'
          have hfin : (v, s') = (e (g a s).1, (g a s).2) := hfin
          have q1 : v = e (g a s).1 := congrArg (·.1) hfin
          have q2 : s' = (g a s).2 := congrArg (·.2) hfin
          have hs' := S.ok _ _ hs'
          subst hs'; subst q2; subst q1
          refine ⟨by rw [PV.emb_congr (E := E) (E' := E') _ fun n hnn => by rw [hBe.h] at hnn; cases hnn], hr.below, E', h0, ⟨fun n kk hh => ?_, fun n kk hh x hx => ?_, fun n c kk kc x y ff gg hne h1 h2 => ?_⟩, ⟨hr.frame.keep, fun c kc j ff h1 h2 h3 hj => ?_⟩⟩
          · obtain ⟨rfl, rfl⟩ := one1B_is hh
            exact hr.mem.blk 0 _ hcs
          · obtain ⟨rfl, rfl⟩ := one1B_is hh
            rw [show (Blk.cells (S.enc (g a s).2) ty').names = PV.namess (S.enc (g a s).2) from rfl, S.names] at hx; cases hx
          · obtain ⟨rfl, _⟩ := one1B_is h1
            obtain ⟨rfl, _⟩ := one1B_is h2
            exact absurd rfl hne
          · obtain ⟨rfl, rfl⟩ := one1B_is h1
            exact hr.frame.orig 0 _ j ff hcs rfl h3 hj
        · exact hfin.elim
    · exact hfin.elim
def eP {P : Program} {tid : ET → TypeId} {I : WInv} {f : FuncId} {fn : Func} {p : Nat} {ty : TypeId} {A : LCod α} {S : LCod σ} {e : γ → PV} [hBe : Bare e] {pre : α → σ → Prop} [∀ a s, Decidable (pre a s)] {g : α → σ → γ × σ} (h : KP P tid I f p ty A S e pre g) (hf : P.funcs[f]? = some fn)
    (hn : (fn.name == "runtime.NumGoroutine") = false := by rfl) (hb : fn.body.isNone = false := by rfl) : Ent P tid I := ⟨f, MP p ty A S e pre g, h.ok (enters hf hn hb)⟩
end
end Go.Proofs.YtpbklojdmkpkcaaDoor
/- The evaluator at this program. -/
namespace Go.Proofs.YtpbklojdmkpkcaaDoor
open Go Go.RowKit
def tid : ET → TypeId
  | .int => 3
  | .u8 => 5
  | .u64 => 22
  | .fix => 24
  | .vec => 26
  | .body => 94
  | .tether => 137
  | .rail => 61
  | .event => 142
  | _ => 0
def etIn (t : TypeId) : List ET → Option ET
  | [] => none
  | e :: r => bif Nat.beq (tid e) t then some e else etIn t r
theorem etIn_ok {t : TypeId} {e : ET} : ∀ {l : List ET}, etIn t l = some e → tid e = t
  | x :: r, h => by
    unfold etIn at h
    cases hb : Nat.beq (tid x) t <;> rw [hb] at h
    · exact etIn_ok h
    · cases h; exact Nat.beq_eq ▸ hb
def etOf (t : TypeId) : Option ET := etIn t [.int, .u8, .u64, .fix, .vec, .body, .tether, .rail, .event]
abbrev mkOrc {P : Program} {I : WInv} (l : List (Ent P tid I)) (x : List (FuncId × (List PV → Tr PV))) : Orc := orcE etOf 0 [] l x
theorem mkOrc_ok {P : Program} {I : WInv} {l : List (Ent P tid I)} {x : List (FuncId × (List PV → Tr PV))} (hx : AllExt P x) : OrcOk P tid I (mkOrc l x) := orcE_ok (fun _ _ h => etIn_ok h) hx
/-- With the outcomes of some tests told ahead. -/
abbrev mkOrcH {P : Program} {I : WInv} (h : Kn) (l : List (Ent P tid I)) : Orc := orcE etOf 0 h l []
theorem mkOrcH_ok {P : Program} {I : WInv} {h : Kn} {l : List (Ent P tid I)} : OrcOk P tid I (mkOrcH h l) := orcE_ok (fun _ _ h => etIn_ok h) trivial
/-- All loops round by round, so often at most. -/
abbrev mkOrcF {P : Program} {I : WInv} (n : Nat) (l : List (Ent P tid I)) : Orc := orcE etOf n [] l []
theorem mkOrcF_ok {P : Program} {I : WInv} {n : Nat} {l : List (Ent P tid I)} : OrcOk P tid I (mkOrcF n l) := orcE_ok (fun _ _ h => etIn_ok h) trivial
theorem mixed : Tryd.prog.follows .mixedOrders = true := by kernel_rfl
end Go.Proofs.YtpbklojdmkpkcaaDoor
/- What was walked by hand, as contracts over plain data. -/
namespace Go.Proofs.YtpbklojdmkpkcaaDoor
open Go Go.RowKit
set_option linter.unusedVariables false
set_option linter.unusedSimpArgs false
/-- A number with a point, by its words. -/
def num (x : Fx) : Int := val2 x.h x.l
def mkx (a : Int) : Fx := ⟨hi a, lo a⟩
/-- It may be. -/
def okF (x : Fx) : Prop := U x.l ∧ F (num x)
/-- Two words. -/
def okT (x : Fx) : Prop := U x.h ∧ U x.l
instance (a : Int) : Decidable (U a) := decidable_of_iff (0 ≤ a ∧ a < 18446744073709551616) ⟨fun h => ⟨h⟩, fun h => h.h⟩
instance (a : Int) : Decidable (F a) := decidable_of_iff (-170141183460469231731687303715884105728 < a ∧ a < 170141183460469231731687303715884105728) ⟨fun h => ⟨h⟩, fun h => h.h⟩
instance (x : Fx) : Decidable (okF x) := inferInstanceAs (Decidable (U x.l ∧ F (num x)))
instance (x : Fx) : Decidable (okT x) := inferInstanceAs (Decidable (U x.h ∧ U x.l))
theorem okF_mk (a : Int) [h : F a] : okF (mkx a) := ⟨lo_U a, by show F (val2 (hi a) (lo a)); rw [val2_hi_lo]; exact h⟩
theorem num_mk (a : Int) : num (mkx a) = a := val2_hi_lo a
theorem mk_num (x : Fx) (h : U x.l) : mkx (num x) = x := by
  haveI := h
  unfold mkx num
  rw [hi_val2, lo_val2]
theorem emb_Fx (x : Fx) (h : okF x) (E : Env) : (cFx.enc x).emb E = fx (num x) := by
  haveI := h.1
  show Value.agg #[.int .i64 x.h, .int .u64 x.l] = .agg #[.int .i64 (hi (val2 x.h x.l)), .int .u64 (lo (val2 x.h x.l))]
  rw [hi_val2, lo_val2]
def okV (v : Vc) : Prop := okF v.X ∧ okF v.Y
instance (v : Vc) : Decidable (okV v) := inferInstanceAs (Decidable (okF v.X ∧ okF v.Y))
theorem emb_Vc (v : Vc) (h : okV v) (E : Env) : (cVc.enc v).emb E = vec (num v.X) (num v.Y) := by
  haveI := h.1.1
  haveI := h.2.1
  show Value.agg #[.int .i64 v.X.h, .int .u64 v.X.l, .int .i64 v.Y.h, .int .u64 v.Y.l] = .agg #[.int .i64 (hi (val2 v.X.h v.X.l)), .int .u64 (lo (val2 v.X.h v.X.l)), .int .i64 (hi (val2 v.Y.h v.Y.l)), .int .u64 (lo (val2 v.Y.h v.Y.l))]
  rw [hi_val2, lo_val2, hi_val2, lo_val2]
/-- The table of directions stands. -/
def TabI : WInv where
  p B w := 0 < B ∧ Tab w
  below B w w' h hb := by
    refine ⟨h.1, ?_⟩
    obtain ⟨t, fr, h2⟩ := h.2
    exact ⟨t, fr, by rw [hb.block _ h.1]; exact h2⟩
  mono B B' w h hB := ⟨Nat.lt_of_lt_of_le h.1 hB, h.2⟩
theorem TabI_of {w : World} (h : Tab w) : TabI.p w.heap.size w := by
  refine ⟨?_, h⟩
  obtain ⟨t, fr, h2⟩ := h
  exact (Array.getElem?_eq_some_iff.1 h2).1
/-- A number and an error; a way and an error: of the reference. -/
def gotR (x : Except Int Int) : Fx × Int := (mkx (valF x), errF x)
def PV.got (x : Fx × Int) : PV := .agg [.int .i64 x.1.h, .int .u64 x.1.l, .int .i64 x.2]
instance : Bare PV.got := ⟨fun _ => rfl⟩
def PV.res (x : Fx × Int) : PV := .tup [.agg [.int .i64 x.1.h, .int .u64 x.1.l], .int .i64 x.2]
instance : Bare PV.res := ⟨fun _ => rfl⟩
def wayR (x : Except Int (Int × Int)) : Vc × Int := (⟨mkx (valX x), mkx (valY x)⟩, errW x)
def PV.way (x : Vc × Int) : PV := .tup [.agg [.int .i64 x.1.X.h, .int .u64 x.1.X.l, .int .i64 x.1.Y.h, .int .u64 x.1.Y.l], .int .i64 x.2]
instance : Bare PV.way := ⟨fun _ => rfl⟩
def PV.rway (x : Vc × Int) : PV := .agg [.int .i64 x.1.X.h, .int .u64 x.1.X.l, .int .i64 x.1.Y.h, .int .u64 x.1.Y.l, .int .i64 x.2]
instance : Bare PV.rway := ⟨fun _ => rfl⟩
def PV.sumR (x : Fx × Bool) : PV := .agg [.int .u64 x.1.h, .int .u64 x.1.l, .raw (.bool x.2)]
instance : Bare PV.sumR := ⟨fun _ => rfl⟩
section
variable {I : WInv}
theorem k_r1_Neg : C1 Tryd.prog I 22 cFx cFx.enc okF fun x => mkx (-(num x)) := fun a h E w _ => by
  rw [emb_Fx a h]; haveI := h.2; exact r1_Neg (num a) w
theorem k_r1_Add : C2 Tryd.prog I 41 cFx cFx PV.got (fun a b => okF a ∧ okF b) fun a b => gotR (addF (num a) (num b)) := fun a b h E w _ => by
  rw [emb_Fx a h.1, emb_Fx b h.2]; haveI := h.1.2; haveI := h.2.2; exact r1_Add (num a) (num b) w
theorem k_r1_Sub : C2 Tryd.prog I 37 cFx cFx PV.got (fun a b => okF a ∧ okF b) fun a b => gotR (subF (num a) (num b)) := fun a b h E w _ => by
  rw [emb_Fx a h.1, emb_Fx b h.2]; haveI := h.1.2; haveI := h.2.2; exact r1_Sub (num a) (num b) w
theorem k_r1_Mag : C1 Tryd.prog I 39 cFx cTw.enc okF fun x => mkx (mag (num x)) := fun a h E w _ => by
  rw [emb_Fx a h]; haveI := h.2; exact r1_Mag (num a) w
theorem k_r1_Less : C2 Tryd.prog I 38 cTw cTw cB.enc (fun a b => okT a ∧ okT b) fun a b => below (num a - num b) := fun a b h E w _ => by
  haveI := h.1.1; haveI := h.1.2; haveI := h.2.1; haveI := h.2.2; exact r1_Less a.h a.l b.h b.l w
theorem k_r1_AddTwo : C2 Tryd.prog I 75 cTw cTw PV.sumR (fun a b => okT a ∧ okT b) fun a b => (mkx (mod2 (num a + num b)), over2 (num a + num b)) := fun a b h E w _ => by
  haveI := h.1.1; haveI := h.1.2; haveI := h.2.1; haveI := h.2.2; exact r1_AddTwo a.h a.l b.h b.l w
theorem k_r1_SubTwo : C2 Tryd.prog I 65 cTw cTw PV.sumR (fun a b => okT a ∧ okT b) fun a b => (mkx (mod2 (num a - num b)), below (num a - num b)) := fun a b h E w _ => by
  haveI := h.1.1; haveI := h.1.2; haveI := h.2.1; haveI := h.2.2; exact r1_SubTwo a.h a.l b.h b.l w
theorem k_r1_Int : C1 Tryd.prog I 28 (cI .i64) cFx.enc (fun n => -9223372036854775807 ≤ n ∧ n ≤ 9223372036854775807) fun n => mkx (n * 18446744073709551616) := fun n h E w _ => r1_Int n h w
theorem k_l1_Num : C1 Tryd.prog I 27 (cI .i64) (cI .i64).enc (fun _ => True) fun n => n := fun n _ E w _ => l1_Num n w
theorem k_turn_Of : C1 Tryd.prog TabI 21 (cI .i64) cVc.enc (fun n => -9223372036854775808 ≤ n ∧ n ≤ 9223372036854775807) fun n => ⟨mkx (valX (ofF n)), mkx (valY (ofF n))⟩ := fun n h E w hI => turn_Of n h w hI.2
theorem k_turn_Rotate : C2 Tryd.prog TabI 26 cVc (cI .i64) PV.way (fun v n => okV v ∧ -9223372036854775808 ≤ n ∧ n ≤ 9223372036854775807) fun v n => wayR (rotF (num v.X) (num v.Y) n) := fun v n h E w hI => by
  rw [emb_Vc v h.1]; haveI := h.1.1.2; haveI := h.1.2.2; exact turn_Rotate (num v.X) (num v.Y) n h.2 w hI.2
end
/-- All of them. -/
def L0 : List (Ent Tryd.prog tid TabI) := [e1 k_r1_Neg Tryd.func22, e2 k_r1_Add Tryd.func41, e2 k_r1_Sub Tryd.func37, e1 k_r1_Mag Tryd.func39, e2 k_r1_Less Tryd.func38, e2 k_r1_AddTwo Tryd.func75, e2 k_r1_SubTwo Tryd.func65,
  e1 k_r1_Int Tryd.func28, e1 k_l1_Num Tryd.func27, e1 k_turn_Of Tryd.func21, e2 k_turn_Rotate Tryd.func26]
end Go.Proofs.YtpbklojdmkpkcaaDoor
