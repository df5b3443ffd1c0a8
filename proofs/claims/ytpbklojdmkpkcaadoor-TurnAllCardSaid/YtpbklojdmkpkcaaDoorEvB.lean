/- The evaluator: whatever order a region's operations come up in, they come to what the text's order comes to. -/
import Derived.Test.YtpbklojdmkpkcaaDoorEvA
namespace Go.Proofs.YtpbklojdmkpkcaaDoor
open Go Go.RowKit
set_option linter.unusedVariables false
set_option linter.unusedSimpArgs false

theorem Tr.run_bind {α β : Type} (f : α → Tr β) : ∀ t : Tr α, (t.bind f).run = t.run.bind fun a => (f a).run
  | .ret a => rfl
  | .ite c t e => by simp only [Tr.bind, Tr.run]; cases c <;> simp [Tr.run_bind f t, Tr.run_bind f e]
  | .need p t => by
    simp only [Tr.bind, Tr.run]
    split
    · exact Tr.run_bind f t
    · rfl
  | .chk c t => by simp only [Tr.bind, Tr.run]; cases c <;> simp [Tr.run_bind f t]
  | .all _ _ _ => rfl
  | .done => rfl
  | .bad _ => rfl
/-- Whatever it comes to is so. -/
def Tr.holds {α : Type} : Tr α → (α → Prop) → Prop
  | .ret a, Q => Q a
  | .ite c t e, Q => (c = true → t.holds Q) ∧ (c = false → e.holds Q)
  | .need p t, Q => p ∧ t.holds Q
  | .chk c t, Q => c = true ∧ t.holds Q
  | .all σ p f, Q => ∀ x : σ, p x → (f x).holds Q
  | .done, _ => True
  | .bad _, _ => False
theorem Tr.holds_bind {α β : Type} (f : α → Tr β) (Q : β → Prop) : ∀ t : Tr α, (t.bind f).holds Q = t.holds fun a => (f a).holds Q
  | .ret a => rfl
  | .ite c t e => by simp only [Tr.bind, Tr.holds, Tr.holds_bind f Q t, Tr.holds_bind f Q e]
  | .need p t => by simp only [Tr.bind, Tr.holds, Tr.holds_bind f Q t]
  | .chk c t => by simp only [Tr.bind, Tr.holds, Tr.holds_bind f Q t]
  | .all σ p t => by
    simp only [Tr.bind, Tr.holds]
    refine forall_congr fun x => ?_
    rw [Tr.holds_bind f Q (t x)]
  | .done => rfl
  | .bad _ => rfl
theorem Tr.holds_noLoop {α : Type} {Q : α → Prop} : ∀ {t : Tr α}, t.noLoop.holds Q → ∃ a, t.run = some a ∧ Q a
  | .ret a, h => ⟨a, rfl, h⟩
  | .ite c t e, h => by
    cases c
    · exact Tr.holds_noLoop (t := e) (h.2 rfl)
    · exact Tr.holds_noLoop (t := t) (h.1 rfl)
  | .need p t, h => by
    obtain ⟨hp, h⟩ := h
    obtain ⟨a, ha, hQ⟩ := Tr.holds_noLoop (t := t) h
    exact ⟨a, by simp only [Tr.run]; rw [if_pos hp]; exact ha, hQ⟩
  | .chk c t, h => by
    obtain ⟨hp, h⟩ := h
    obtain ⟨a, ha, hQ⟩ := Tr.holds_noLoop (t := t) h
    exact ⟨a, by simp only [Tr.run]; rw [hp]; exact ha, hQ⟩
  | .all _ _ _, h => h.elim
  | .done, h => h.elim
  | .bad _, h => h.elim
theorem Tr.holds_mono {α : Type} {Q Q' : α → Prop} (hQ : ∀ a, Q a → Q' a) : ∀ {t : Tr α}, t.holds Q → t.holds Q'
  | .ret a, h => hQ a h
  | .ite c t e, h => ⟨fun hc => Tr.holds_mono hQ (h.1 hc), fun hc => Tr.holds_mono hQ (h.2 hc)⟩
  | .need p t, h => ⟨h.1, Tr.holds_mono hQ h.2⟩
  | .chk c t, h => ⟨h.1, Tr.holds_mono hQ h.2⟩
  | .all σ p f, h => fun x hp => Tr.holds_mono hQ (h x hp)
  | .done, h => h
  | .bad _, h => h
theorem Tr.holds_force {α : Type} {Q : α → Prop} : ∀ {t : Tr α}, t.force.holds Q → t.holds Q
  | .ret a, h => h
  | .ite c t e, h => by
    cases c
    · exact ⟨(fun h => by cases h), fun _ => Tr.holds_force (t := e) h⟩
    · exact ⟨fun _ => Tr.holds_force (t := t) h, (fun h => by cases h)⟩
  | .need p t, h => ⟨h.1, Tr.holds_force h.2⟩
  | .chk c t, h => by
    cases c
    · exact h.elim
    · exact ⟨rfl, Tr.holds_force (t := t) h⟩
  | .all σ p f, h => fun x hp => Tr.holds_force (h x hp)
  | .done, h => h
  | .bad _, h => h.elim

theorem nb (n : Nat) : Nat.beq n n = true := by rw [Nat.beq_eq]
theorem has_iff {l : List Nat} {n : Nat} : has l n = true ↔ n ∈ l := by
  unfold has
  rw [List.any_eq_true]
  constructor
  · rintro ⟨x, hx, he⟩; rw [Nat.beq_eq] at he; exact he ▸ hx
  · exact fun h => ⟨n, h, by rw [Nat.beq_eq]⟩
theorem meet_iff {a b : List Nat} : meet a b = true ↔ ∃ n, n ∈ a ∧ n ∈ b := by
  unfold meet
  rw [List.any_eq_true]
  exact ⟨fun ⟨n, h1, h2⟩ => ⟨n, h1, has_iff.1 h2⟩, fun ⟨n, h1, h2⟩ => ⟨n, h1, has_iff.2 h2⟩⟩
mutual
theorem PV.ok_iff (d : Nat → Bool) : ∀ v : PV, v.ok d = true ↔ ∀ n ∈ v.names, d n = true
  | .raw _ => by simp [PV.ok, PV.names]
  | .ptr b _ _ _ => by simp [PV.ok, PV.names]
  | .sl b _ => by simp [PV.ok, PV.names]
  | .agg l => by simp only [PV.ok, PV.names]; exact PV.oks_iff d l
  | .tup l => by simp only [PV.ok, PV.names]; exact PV.oks_iff d l
  | .clo _ l => by simp only [PV.ok, PV.names]; exact PV.oks_iff d l
  | .isnil _ _ => by simp [PV.ok, PV.names]
theorem PV.oks_iff (d : Nat → Bool) : ∀ l : List PV, PV.oks d l = true ↔ ∀ n ∈ PV.namess l, d n = true
  | [] => by simp [PV.oks, PV.namess]
  | v :: r => by simp [PV.oks, PV.namess, PV.ok_iff d v, PV.oks_iff d r, or_imp, forall_and]
end
theorem Blk.ok_iff (d : Nat → Bool) : ∀ k : Blk, k.ok d = true ↔ ∀ n ∈ k.names, d n = true
  | .cells cs _ => PV.oks_iff d cs
  | .row _ _ _ => by simp [Blk.ok, Blk.names]
  | .gone => by simp [Blk.ok, Blk.names]
theorem upd_same {α : Type} (f : Nat → Option α) (k : Nat) (v : α) : upd f k v k = some v := by
  unfold upd; rw [nb]; rfl
theorem upd_ne {α : Type} (f : Nat → Option α) {k n : Nat} (v : α) (h : n ≠ k) : upd f k v n = f n := by
  unfold upd
  cases hb : Nat.beq n k
  · rfl
  · exact absurd (Nat.beq_eq ▸ hb) h
theorem upd_comm {α : Type} (f : Nat → Option α) {i j : Nat} (v u : α) (h : i ≠ j) : upd (upd f i v) j u = upd (upd f j u) i v := by
  funext n
  by_cases h1 : n = i
  · subst h1; rw [upd_same, upd_ne _ _ h, upd_same]
  · by_cases h2 : n = j
    · subst h2; rw [upd_same, upd_ne _ _ h1, upd_same]
    · rw [upd_ne _ _ h2, upd_ne _ _ h1, upd_ne _ _ h1, upd_ne _ _ h2]
theorem upds_out {α : Type} : ∀ (l : List (Nat × α)) (f : Nat → Option α) (n : Nat), n ∉ l.map (·.1) → upds f l n = f n
  | [], _, _, _ => rfl
  | (k, v) :: r, f, n, h => by
    simp only [List.map_cons, List.mem_cons, not_or] at h
    rw [upds, upds_out r _ n h.2, upd_ne _ _ h.1]
theorem upds_in {α : Type} : ∀ (l : List (Nat × α)) (f g : Nat → Option α) (n : Nat), n ∈ l.map (·.1) → upds f l n = upds g l n
  | [], _, _, _, h => by simp at h
  | (k, v) :: r, f, g, n, h => by
    simp only [upds]
    by_cases hr : n ∈ r.map (·.1)
    · exact upds_in r _ _ n hr
    · rw [upds_out r _ n hr, upds_out r _ n hr]
      simp only [List.map_cons, List.mem_cons] at h
      obtain rfl := h.resolve_right hr
      rw [upd_same, upd_same]
theorem upds_upd {α : Type} : ∀ (l : List (Nat × α)) (f : Nat → Option α) (k : Nat) (v : α), k ∉ l.map (·.1) → upds (upd f k v) l = upd (upds f l) k v
  | [], _, _, _, _ => rfl
  | (j, u) :: r, f, k, v, h => by
    simp only [List.map_cons, List.mem_cons, not_or] at h
    simp only [upds]
    rw [upd_comm f v u h.1, upds_upd r _ k v h.2]
theorem upds_comm {α : Type} : ∀ (l m : List (Nat × α)) (f : Nat → Option α), (∀ n, n ∈ l.map (·.1) → n ∉ m.map (·.1)) → upds (upds f l) m = upds (upds f m) l
  | [], _, _, _ => rfl
  | (k, v) :: r, m, f, h => by
    simp only [upds]
    rw [upds_comm r m _ (fun n hn => h n (by simp [hn])), upds_upd m f k v (h k (by simp))]
theorem upds_some {α : Type} : ∀ (l : List (Nat × α)) (f : Nat → Option α) (n : Nat), (upds f l n).isSome = ((f n).isSome || has (l.map (·.1)) n)
  | [], f, n => by simp [upds, has]
  | (k, v) :: r, f, n => by
    simp only [upds]
    rw [upds_some r]
    simp only [List.map_cons, has, List.any_cons]
    by_cases h : n = k
    · subst h; rw [upd_same, nb]; simp
    · rw [upd_ne _ _ h]
      have : Nat.beq n k = false := by
        cases hb : Nat.beq n k
        · rfl
        · exact absurd (Nat.beq_eq ▸ hb) h
      rw [this]; simp

def Out.all (o : Out) : List (Nat × Blk) := o.news ++ o.ups
theorem St.ext' {s s' : St} (h1 : s.tmps = s'.tmps) (h2 : s.mem = s'.mem) : s = s' := by cases s; cases s'; simp at *; exact ⟨h1, h2⟩
theorem app_tmps_ne {s : St} {d : Option Tmp} {o : Out} {t : Nat} (h : t ∉ d.toList) : (s.app d o).tmps t = s.tmps t := by
  cases d with
  | none => rfl
  | some d => exact upd_ne _ _ (by simpa using h)
theorem app_tmps_eq {s s' : St} {d : Option Tmp} {o : Out} {t : Nat} (h : t ∈ d.toList) : (s.app d o).tmps t = (s'.app d o).tmps t := by
  cases d with
  | none => simp at h
  | some d => simp at h; subst h; exact (upd_same _ _ _).trans (upd_same _ _ _).symm
theorem app_mem_ne {s : St} {d : Option Tmp} {o : Out} {b : Nat} (h : b ∉ o.all.map (·.1)) : (s.app d o).mem b = s.mem b := upds_out _ _ _ h
theorem app_mem_eq {s s' : St} {d : Option Tmp} {o : Out} {b : Nat} (h : b ∈ o.all.map (·.1)) : (s.app d o).mem b = (s'.app d o).mem b := upds_in _ _ _ _ h
theorem app_comm (s : St) {d e : Option Tmp} {o p : Out} (h1 : ∀ t ∈ d.toList, t ∉ e.toList) (h2 : ∀ n, n ∈ o.all.map (·.1) → n ∉ p.all.map (·.1)) :
    (s.app d o).app e p = (s.app e p).app d o := by
  refine St.ext' ?_ (upds_comm _ _ _ h2)
  cases d with
  | none => cases e <;> rfl
  | some d =>
    cases e with
    | none => rfl
    | some e => exact upd_comm _ _ _ (by have := h1 d (by simp); simpa using this)

/-- One step of a run in the text's order. -/
structure Stp where
  o : Oper
  out : Out
  c : Rec
/-- What those among a run's steps that l has come to. -/
def apps (l : Nat → Bool) : Nat → List Stp → St → St
  | _, [], s => s
  | i, x :: r, s => apps l (i + 1) r (bif l i then s.app x.o.dst x.out else s)
theorem apps_tmps {l l' : Nat → Bool} {t : Nat} : ∀ (L : List Stp) (i : Nat) (s s' : St), s.tmps t = s'.tmps t →
    (∀ j x, L[j]? = some x → t ∈ x.o.dst.toList → l (i + j) = l' (i + j)) → (apps l i L s).tmps t = (apps l' i L s').tmps t
  | [], _, _, _, h, _ => h
  | x :: r, i, s, s', h, hw => by
    simp only [apps]
    refine apps_tmps r (i + 1) _ _ ?_ (fun j y hy ht => by have := hw (j + 1) y hy ht; rwa [show i + (j + 1) = i + 1 + j from by omega] at this)
    by_cases ht : t ∈ x.o.dst.toList
    · have := hw 0 x rfl ht
      simp only [Nat.add_zero] at this
      rw [this]
      cases l' i
      · exact h
      · exact app_tmps_eq ht
    · have e1 : (bif l i then s.app x.o.dst x.out else s).tmps t = s.tmps t := by cases l i; rfl; exact app_tmps_ne ht
      have e2 : (bif l' i then s'.app x.o.dst x.out else s').tmps t = s'.tmps t := by cases l' i; rfl; exact app_tmps_ne ht
      rw [e1, e2, h]
theorem apps_mem {l l' : Nat → Bool} {t : Nat} : ∀ (L : List Stp) (i : Nat) (s s' : St), s.mem t = s'.mem t →
    (∀ j x, L[j]? = some x → t ∈ x.out.all.map (·.1) → l (i + j) = l' (i + j)) → (apps l i L s).mem t = (apps l' i L s').mem t
  | [], _, _, _, h, _ => h
  | x :: r, i, s, s', h, hw => by
    simp only [apps]
    refine apps_mem r (i + 1) _ _ ?_ (fun j y hy ht => by have := hw (j + 1) y hy ht; rwa [show i + (j + 1) = i + 1 + j from by omega] at this)
    by_cases ht : t ∈ x.out.all.map (·.1)
    · have := hw 0 x rfl ht
      simp only [Nat.add_zero] at this
      rw [this]
      cases l' i
      · exact h
      · exact app_mem_eq ht
    · have e1 : (bif l i then s.app x.o.dst x.out else s).mem t = s.mem t := by cases l i; rfl; exact app_mem_ne ht
      have e2 : (bif l' i then s'.app x.o.dst x.out else s').mem t = s'.mem t := by cases l' i; rfl; exact app_mem_ne ht
      rw [e1, e2, h]
theorem apps_congr {l l' : Nat → Bool} : ∀ (L : List Stp) (i : Nat) (s : St), (∀ j, i ≤ j → j < i + L.length → l j = l' j) → apps l i L s = apps l' i L s
  | [], _, _, _ => rfl
  | x :: r, i, s, h => by
    simp only [apps]
    rw [h i (Nat.le_refl _) (by simp), apps_congr r (i + 1) _ (fun j h1 h2 => h j (by omega) (by simp; omega))]
/-- What has come up last might as well have come up in its place. -/
theorem apps_push {l : Nat → Bool} {d : Option Tmp} {o : Out} : ∀ (L : List Stp) (i : Nat) (s : St),
    (∀ j x, L[j]? = some x → l (i + j) = true → (∀ t ∈ d.toList, t ∉ x.o.dst.toList) ∧ ∀ n, n ∈ o.all.map (·.1) → n ∉ x.out.all.map (·.1)) →
    apps l i L (s.app d o) = (apps l i L s).app d o
  | [], _, _, _ => rfl
  | x :: r, i, s, h => by
    simp only [apps]
    cases hl : l i
    · exact apps_push r (i + 1) s (fun j y hy hj => h (j + 1) y hy (by rwa [show i + (j + 1) = i + 1 + j from by omega]))
    · obtain ⟨h1, h2⟩ := h 0 x rfl (by simpa using hl)
      simp only [cond_true]
      rw [app_comm s h1 h2]
      exact apps_push r (i + 1) _ (fun j y hy hj => h (j + 1) y hy (by rwa [show i + (j + 1) = i + 1 + j from by omega]))
theorem apps_set {l : Nat → Bool} {k : Nat} {x : Stp} : ∀ (L : List Stp) (i : Nat) (s : St), L[k]? = some x → l (i + k) = false →
    (∀ j y, k < j → L[j]? = some y → l (i + j) = true → (∀ t ∈ x.o.dst.toList, t ∉ y.o.dst.toList) ∧ ∀ n, n ∈ x.out.all.map (·.1) → n ∉ y.out.all.map (·.1)) →
    apps (fun n => l n || Nat.beq n (i + k)) i L s = (apps l i L s).app x.o.dst x.out := by
  induction k with
  | zero =>
    intro L i s hx hl h
    match L, hx with
    | y :: r, hx =>
      simp only [List.getElem?_cons_zero, Option.some.injEq] at hx
      subst hx
      simp only [Nat.add_zero] at hl
      simp only [apps, Nat.add_zero, hl, Bool.false_or, nb, cond_true, cond_false]
      rw [← apps_push r (i + 1) s (fun j z hz hj => h (j + 1) z (by omega) hz (by rwa [show i + (j + 1) = i + 1 + j from by omega]))]
      refine apps_congr r (i + 1) _ (fun j h1 h2 => ?_)
      have : Nat.beq j i = false := by
        cases hb : Nat.beq j i
        · rfl
        · have : j = i := Nat.beq_eq ▸ hb
          omega
      simp [this]
  | succ k ih =>
    intro L i s hx hl h
    match L, hx with
    | y :: r, hx =>
      simp only [List.getElem?_cons_succ] at hx
      have hne : Nat.beq i (i + (k + 1)) = false := by
        cases hb : Nat.beq i (i + (k + 1))
        · rfl
        · have : i = i + (k + 1) := Nat.beq_eq ▸ hb
          omega
      simp only [apps, hne, Bool.or_false]
      have e : i + (k + 1) = i + 1 + k := by omega
      rw [e] at hl ⊢
      exact ih r (i + 1) _ hx hl (fun j z hj hz hlj => h (j + 1) z (by omega) (by simpa using hz) (by rwa [show i + (j + 1) = i + 1 + j from by omega]))
end Go.Proofs.YtpbklojdmkpkcaaDoor
