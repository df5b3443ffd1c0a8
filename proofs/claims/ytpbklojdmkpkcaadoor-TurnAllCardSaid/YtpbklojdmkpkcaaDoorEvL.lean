/- The evaluator: loops: how a state of a round's end becomes one of a round's head. -/
import Derived.Test.YtpbklojdmkpkcaaDoorEvI
namespace Go.Proofs.YtpbklojdmkpkcaaDoor
open Go Go.RowKit
set_option linter.unusedVariables false
set_option linter.unusedSimpArgs false

def Env.ren (ρ : Ren) (E : Env) : Env :=
  { at_ := fun n => match Go.Proofs.YtpbklojdmkpkcaaDoor.ren ρ n with
      | none => E.at_ n
      | some none => none
      | some (some b) => E.at_ b
    len := fun n => match Go.Proofs.YtpbklojdmkpkcaaDoor.ren ρ n with
      | none => E.len n
      | some none => 0
      | some (some b) => E.len b
    cap := fun n => match Go.Proofs.YtpbklojdmkpkcaaDoor.ren ρ n with
      | none => E.cap n
      | some none => 0
      | some (some b) => E.cap b }
theorem Env.ren_none {ρ : Ren} {E : Env} {n : Nat} (h : Go.Proofs.YtpbklojdmkpkcaaDoor.ren ρ n = none) : (E.ren ρ).at_ n = E.at_ n ∧ (E.ren ρ).len n = E.len n ∧ (E.ren ρ).cap n = E.cap n := by
  simp only [Env.ren, h, and_self]
theorem Env.ren_nil {ρ : Ren} {E : Env} {n : Nat} (h : Go.Proofs.YtpbklojdmkpkcaaDoor.ren ρ n = some none) : (E.ren ρ).at_ n = none ∧ (E.ren ρ).len n = 0 ∧ (E.ren ρ).cap n = 0 := by
  simp only [Env.ren, h, and_self]
theorem Env.ren_some {ρ : Ren} {E : Env} {n b : Nat} (h : Go.Proofs.YtpbklojdmkpkcaaDoor.ren ρ n = some (some b)) : (E.ren ρ).at_ n = E.at_ b ∧ (E.ren ρ).len n = E.len b ∧ (E.ren ρ).cap n = E.cap b := by
  simp only [Env.ren, h, and_self]
theorem ren_out {L : List Nat} : ∀ {ρ : Ren} {n : Nat}, ρ.all (fun p => has L p.1) = true → ¬ has L n = true → ren ρ n = none
  | [], n, _, _ => rfl
  | (r, o) :: l, n, h, hn => by
    rw [List.all_cons, Bool.and_eq_true] at h
    unfold ren
    cases hb : Nat.beq r n
    · exact ren_out h.2 hn
    · have : r = n := Nat.beq_eq ▸ hb
      subst this
      exact absurd h.1 hn
theorem andO_some {p q : Option Prop} {r : Prop} (h : andO p q = some r) : ∃ a b, p = some a ∧ q = some b ∧ r = (a ∧ b) := by
  unfold andO at h
  split at h
  · cases h; exact ⟨_, _, rfl, rfl, rfl⟩
  · cases h
section
variable {ρ : Ren} {E : Env}
mutual
theorem eqPV_ok : ∀ (u v : PV) {p : Prop}, eqPV ρ u v = some p → p → u.emb E = v.emb (E.ren ρ)
  | .agg l, v, p, h, hp => by
    cases v with
    | agg l' => simp only [eqPV] at h; simp only [PV.emb]; rw [eqPVs_ok l l' h hp]
    | _ => simp [eqPV] at h
  | .tup l, v, p, h, hp => by
    cases v with
    | tup l' => simp only [eqPV] at h; simp only [PV.emb]; rw [eqPVs_ok l l' h hp]
    | _ => simp [eqPV] at h
  | .isnil _ _, v, p, h, hp => by cases v <;> simp [eqPV] at h
  | .clo f l, v, p, h, hp => by
    cases v with
    | clo g l' =>
      simp only [eqPV] at h
      cases hb : Nat.beq f g <;> rw [hb] at h
      · cases h
      · have : f = g := Nat.beq_eq ▸ hb
        subst this
        simp only [PV.emb]; rw [eqPVs_ok l l' h hp]
    | _ => simp [eqPV] at h
  | .ptr b sz i off, v, p, h, hp => by
    cases v with
    | ptr b' sz' i' off' =>
      simp only [eqPV] at h
      cases hb : (Nat.beq b b' && Nat.beq sz sz' && Nat.beq off off') <;> rw [hb] at h
      · cases h
      · simp only [Bool.and_eq_true, Nat.beq_eq] at hb
        obtain ⟨⟨rfl, rfl⟩, rfl⟩ := hb
        simp only [cond_true] at h
        split at h
        · rename_i hr
          cases h
          subst hp
          simp only [PV.emb, (Env.ren_none (E := E) hr).1]
        · cases h
    | _ => simp [eqPV] at h
  | .sl b sz, v, p, h, hp => by
    cases v with
    | sl r sz' =>
      simp only [eqPV] at h
      cases hb : Nat.beq sz sz' <;> rw [hb] at h
      · cases h
      · simp only [cond_true] at h
        split at h
        · rename_i hr
          cases hb2 : Nat.beq b r <;> rw [hb2] at h
          · cases h
          · have : b = r := Nat.beq_eq ▸ hb2
            subst this
            have := Env.ren_none (E := E) hr
            simp only [PV.emb, this.1, this.2.1, this.2.2]
        · rename_i c hr
          cases hb2 : Nat.beq b c <;> rw [hb2] at h
          · cases h
          · have : b = c := Nat.beq_eq ▸ hb2
            subst this
            have := Env.ren_some (E := E) hr
            simp only [PV.emb, this.1, this.2.1, this.2.2]
        · cases h
    | _ => simp [eqPV] at h
  | .raw a, v, p, h, hp => by
    unfold eqPV at h
    split at h
    · rename_i e2
      injection e2 with e2; subst e2
      split at h
      · rename_i hk
        simp only [Option.some.injEq] at h
        subst h; subst hp; subst hk; rfl
      · cases h
    · rename_i e2
      injection e2 with e2; subst e2
      simp only [Option.some.injEq] at h
      subst h; subst hp; rfl
    · rename_i e2
      first | (have e3 := PV.raw.inj e2; rw [e3]; rfl) | (trace_state; done)
    · rename_i e2
      injection e2 with e2; subst e2
      split at h
      · rename_i hr
        simp only [PV.emb, (Env.ren_nil (E := E) hr).1]
      · cases h
    all_goals (first | (rename_i e2; cases e2; done) | (cases h; done) | skip)
theorem eqPVs_ok : ∀ (l l' : List PV) {p : Prop}, eqPVs ρ l l' = some p → p → PV.embs E l = PV.embs (E.ren ρ) l'
  | [], l', p, h, hp => by
    cases l' with
    | nil => rfl
    | cons _ _ => simp [eqPVs] at h
  | u :: r, l', p, h, hp => by
    cases l' with
    | nil => simp [eqPVs] at h
    | cons v r' =>
      simp only [eqPVs] at h
      obtain ⟨a, b, h1, h2, rfl⟩ := andO_some h
      simp only [PV.embs, eqPV_ok u v h1 hp.1, eqPVs_ok r r' h2 hp.2]
end
theorem eqBlk_ok {tid : ET → TypeId} {B : Nat} {w : World} {b r : Nat} (hb : (E.ren ρ).at_ r = E.at_ b ∧ (E.ren ρ).len r = E.len b ∧ (E.ren ρ).cap r = E.cap b) : ∀ {k' k : Blk} {p : Prop}, eqBlk ρ k' k = some p → p → BlkOk tid B E w b k' → BlkOk tid B (E.ren ρ) w r k ∧ k'.own = k.own
  | .cells l ty, .cells l' ty', p, h, hp, hk => by
    simp only [eqBlk] at h
    cases ht : Nat.beq ty ty' <;> rw [ht] at h
    · cases h
    · have : ty = ty' := Nat.beq_eq ▸ ht
      subst this
      obtain ⟨g, h1, h2, h3⟩ := hk
      refine ⟨⟨g, by rw [hb.1]; exact h1, h2, ?_⟩, rfl⟩
      rw [← eqPVs_ok l l' h hp]; exact h3
  | .row own t l, .row own' t' l', p, h, hp, hk => by
    simp only [eqBlk] at h
    cases ho : (own == own') <;> rw [ho] at h
    · cases h
    · have : own = own' := by simpa using ho
      subst this
      simp only [cond_true] at h
      split at h
      · rename_i ht
        subst ht
        simp only [Option.some.injEq] at h
        subst h
        have hp : l = l' := hp
        subst hp
        refine ⟨?_, rfl⟩
        have hk : RowOk tid B E w b own t l := hk
        show RowOk tid B (E.ren ρ) w r own t l
        unfold RowOk at hk ⊢
        rw [hb.1, hb.2.1, hb.2.2]
        exact hk
      · cases h
  | .cells _ _, .row _ _ _, p, h, hp, hk => by simp [eqBlk] at h
  | .row _ _ _, .cells _ _, p, h, hp, hk => by simp [eqBlk] at h
theorem upds_cases {α : Type} : ∀ (l : List (Nat × α)) (f : Nat → Option α) {n : Nat} {v : α}, upds f l n = some v → (n, v) ∈ l ∨ (n ∉ l.map (·.1) ∧ f n = some v)
  | [], f, n, v, h => .inr ⟨by simp, h⟩
  | (k, u) :: r, f, n, v, h => by
    rcases upds_cases r (upd f k u) h with h | ⟨h1, h2⟩
    · exact .inl (List.mem_cons_of_mem _ h)
    · by_cases hk : n = k
      · subst hk
        rw [upd_same] at h2
        cases h2
        exact .inl List.mem_cons_self
      · rw [upd_ne f u hk] at h2
        exact .inr ⟨by simp [hk] at h1 ⊢; exact h1, h2⟩
theorem zip_keys {α : Type} : ∀ {ks : List Nat} {vs : List α}, ks.length = vs.length → (ks.zip vs).map (·.1) = ks
  | [], [], _ => rfl
  | _ :: _, _ :: _, h => by simp only [List.zip_cons_cons, List.map_cons]; rw [zip_keys (by simpa using h)]
theorem fitT_ok {s : St} : ∀ {ks : List Nat} {vs : List PV} {p : Prop}, fitT ρ s ks vs = some p → p → ks.length = vs.length ∧ ∀ t v, (t, v) ∈ ks.zip vs → ∃ u q, s.tmps t = some u ∧ eqPV ρ u v = some q ∧ q
  | [], [], p, h, hp => ⟨rfl, by simp⟩
  | [], _ :: _, p, h, hp => by simp [fitT] at h
  | _ :: _, [], p, h, hp => by simp [fitT] at h
  | t :: ts, v :: vs, p, h, hp => by
    simp only [fitT] at h
    split at h
    · rename_i u hu
      obtain ⟨a, b, h1, h2, rfl⟩ := andO_some h
      obtain ⟨i1, i2⟩ := fitT_ok h2 hp.2
      refine ⟨by simp [i1], fun t' v' hm => ?_⟩
      rw [List.zip_cons_cons] at hm
      rcases List.mem_cons.1 hm with hm | hm
      · cases hm; exact ⟨u, a, hu, h1, hp.1⟩
      · exact i2 t' v' hm
    · cases h
theorem fitB_ok {s : St} : ∀ {ks : List Nat} {vs : List Blk} {p : Prop}, fitB ρ s ks vs = some p → p → ks.length = vs.length ∧ ∀ t v, (t, v) ∈ ks.zip vs → ∃ q, fit1 ρ s t v = some q ∧ q
  | [], [], p, h, hp => ⟨rfl, by simp⟩
  | [], _ :: _, p, h, hp => by simp [fitB] at h
  | _ :: _, [], p, h, hp => by simp [fitB] at h
  | t :: ts, v :: vs, p, h, hp => by
    simp only [fitB] at h
    obtain ⟨a, b, h1, h2, rfl⟩ := andO_some h
    obtain ⟨i1, i2⟩ := fitB_ok h2 hp.2
    refine ⟨by simp [i1], fun t' v' hm => ?_⟩
    rw [List.zip_cons_cons] at hm
    rcases List.mem_cons.1 hm with hm | hm
    · cases hm; exact ⟨a, h1, hp.1⟩
    · exact i2 t' v' hm
theorem tgts_mem : ∀ {ks : List Nat} {vs : List Blk} {b c : Nat} {k : Blk}, (b, k) ∈ ks.zip vs → k.own = true → tgt ρ b = some c → c ∈ tgts ρ ks vs
  | [], vs, b, c, k, h, ho, ht => by simp at h
  | _ :: _, [], b, c, k, h, ho, ht => by simp at h
  | r :: rs, j :: ks, b, c, k, h, ho, ht => by
    rw [List.zip_cons_cons] at h
    simp only [tgts]
    rcases List.mem_cons.1 h with h | h
    · cases h
      rw [ho, ht]
      simp
    · have ih := tgts_mem h ho ht
      cases j.own
      · exact ih
      · exact List.mem_append_right _ ih
theorem nodupB_iff : ∀ {l : List Nat}, nodupB l = true ↔ l.Nodup
  | [] => by simp [nodupB]
  | n :: r => by
    rw [nodupB, Bool.and_eq_true, nodupB_iff, List.nodup_cons, Bool.not_eq_true', ← Bool.not_eq_true, has_iff]
theorem tgts_apart : ∀ {ks : List Nat} {vs : List Blk} {b c i j : Nat} {k k' : Blk}, (tgts ρ ks vs).Nodup → (b, k) ∈ ks.zip vs → (c, k') ∈ ks.zip vs → b ≠ c → k.own = true → k'.own = true → tgt ρ b = some i → tgt ρ c = some j → i ≠ j
  | [], vs, b, c, i, j, k, k', hn, h1, h2, hbc, o1, o2, t1, t2 => by simp at h1
  | _ :: _, [], b, c, i, j, k, k', hn, h1, h2, hbc, o1, o2, t1, t2 => by simp at h1
  | r :: rs, m :: ks, b, c, i, j, k, k', hn, h1, h2, hbc, o1, o2, t1, t2 => by
    rw [List.zip_cons_cons] at h1 h2
    simp only [tgts] at hn
    rcases List.mem_cons.1 h1 with h1 | h1 <;> rcases List.mem_cons.1 h2 with h2 | h2
    · cases h1; cases h2; exact absurd rfl hbc
    · cases h1
      rw [o1, cond_true, t1] at hn
      have := tgts_mem (ρ := ρ) h2 o2 t2
      simp only [Option.toList_some, List.cons_append, List.nil_append, List.nodup_cons] at hn
      exact fun e => hn.1 (e ▸ this)
    · cases h2
      rw [o2, cond_true, t2] at hn
      have := tgts_mem (ρ := ρ) h1 o1 t1
      simp only [Option.toList_some, List.cons_append, List.nil_append, List.nodup_cons] at hn
      exact fun e => hn.1 (e ▸ this)
    · refine tgts_apart ?_ h1 h2 hbc o1 o2 t1 t2
      cases ho : m.own <;> rw [ho] at hn
      · exact hn
      · exact (List.nodup_append.1 hn).2.1
end
theorem gather_ok {β : Type} {k : List Nat → Tr β} {Φ : β → Prop} : ∀ (l acc : List Nat), (gather l acc k).holds Φ → ∃ l', (k l').holds Φ
  | [], acc, h => ⟨acc, h⟩
  | n :: r, acc, h => by
    simp only [gather] at h
    split at h
    · exact gather_ok r acc h
    · exact gather_ok r (n :: acc) h
theorem sift_ok {β : Type} {p : Nat → Bool} {Φ : β → Prop} : ∀ (l : List Nat) {k : List Nat → Tr β}, (sift p l k).holds Φ → ∃ l', (k l').holds Φ ∧ (∀ n ∈ l', p n = true) ∧ ∀ n ∈ l', n ∈ l
  | [], k, h => ⟨[], h, by simp, by simp⟩
  | n :: r, k, h => by
    simp only [sift] at h
    split at h
    · rename_i hn
      obtain ⟨l', h1, h2, h3⟩ := sift_ok r h
      refine ⟨n :: l', h1, fun m hm => ?_, fun m hm => ?_⟩
      · rcases List.mem_cons.1 hm with rfl | hm
        · exact hn
        · exact h2 m hm
      · rcases List.mem_cons.1 hm with rfl | hm
        · exact List.mem_cons_self
        · exact List.mem_cons_of_mem _ (h3 m hm)
    · obtain ⟨l', h1, h2, h3⟩ := sift_ok r h
      exact ⟨l', h1, h2, fun m hm => List.mem_cons_of_mem _ (h3 m hm)⟩
/-- What a loop's head leans on. -/
structure HeadOk (M lt lb A : List Nat) (L : LSpec) (s : St) (T N : List Nat) : Prop where
  slot : ∀ t ∈ T, okSlot s L N t = true
  asg : ∀ t ∈ T, t ∉ A
  keyT : ∀ t ∈ T, t ∉ L.keysT
  keyB : ∀ n ∈ N, n ∉ L.keysB
  name : ∀ n ∈ N, okName s L N n = true
  lt : ∀ t ∈ lt, t ∈ T
  lb : ∀ n ∈ lb, n ∈ N
  M : ∀ n ∈ M, stays L N n = true
  rows : ∀ r ∈ L.rows, r ∈ L.keysB
theorem atHead_ok {nt : Nat} {M lt lb A : List Nat} {L : LSpec} {s : St} {ρ : Ren} {k : List Nat → List Nat → Tr (Ex × St)} {Φ : Ex × St → Prop} (h : (atHead nt M lt lb A L s ρ k).holds Φ) : ∃ T N, HeadOk M lt lb A L s T N ∧ (k T N).holds Φ := by
  unfold atHead at h
  obtain ⟨T0, h, a1, _⟩ := sift_ok _ h
  obtain ⟨N0, h⟩ := gather_ok _ _ h
  obtain ⟨N1, h, b1, _⟩ := sift_ok _ h
  obtain ⟨N, h, c1, c2⟩ := sift_ok _ h
  obtain ⟨T, h, d1, d2⟩ := sift_ok _ h
  cases ho : okHd M lt lb L s T N <;> rw [ho] at h
  · exact h.elim
  · simp only [okHd, Bool.and_eq_true, List.all_eq_true] at ho
    obtain ⟨⟨⟨⟨⟨⟨o1, o2⟩, o3⟩, o4⟩, o5⟩, o6⟩, o7⟩ := ho
    refine ⟨T, N, ⟨d1, fun t ht => ?_, fun t ht => ?_, fun n hn => ?_, o1, fun t ht => has_iff.1 (o2 t ht), fun n hn => has_iff.1 (o3 n hn), o4, fun r hr => has_iff.1 (o7 r hr).1⟩, h⟩
    · have := a1 t (d2 t ht)
      simp only [Bool.and_eq_true, Bool.not_eq_true', ← Bool.not_eq_true, has_iff] at this
      exact this.1.2
    · have := a1 t (d2 t ht)
      simp only [Bool.and_eq_true, Bool.not_eq_true', ← Bool.not_eq_true, has_iff] at this
      exact this.2
    · have := b1 n (c2 n hn)
      simp only [Bool.and_eq_true, Bool.not_eq_true', ← Bool.not_eq_true, has_iff] at this
      exact this.1
section
variable {P : Program} {tid : ET → TypeId} {I : WInv} {B : Nat} {w0 : World} {nt : Nat} {E0 : Env} {m0 : Nat → Option Blk}
theorem head_tmps {s : St} {T N : List Nat} {L : LSpec} {v : List PV × List Blk} {t : Nat} {u : PV} (h : (s.head T N L v).tmps t = some u) : (t, u) ∈ L.keysT.zip v.1 ∨ (t ∈ T ∧ s.tmps t = some u) := by
  rcases upds_cases _ _ h with h | ⟨_, h⟩
  · exact .inl h
  · cases ht : has T t <;> rw [ht] at h
    · cases h
    · exact .inr ⟨has_iff.1 ht, h⟩
theorem head_mem {s : St} {T N : List Nat} {L : LSpec} {v : List PV × List Blk} {t : Nat} {u : Blk} (h : (s.head T N L v).mem t = some u) : (t, u) ∈ L.keysB.zip v.2 ∨ (t ∈ N ∧ s.mem t = some u) := by
  rcases upds_cases _ _ h with h | ⟨_, h⟩
  · exact .inl h
  · cases ht : has N t <;> rw [ht] at h
    · cases h
    · exact .inr ⟨has_iff.1 ht, h⟩
theorem fit_rel {M lt lb A T N : List Nat} {L : LSpec} {s s' : St} {ρ : Ren} {v : List PV × List Blk} {Φ : Unit → Prop} {E : Env} {a : Act} {w : World} (hM : ∀ b, (m0 b).isSome = true → b ∈ M) (hd : HeadOk M lt lb A L s T N)
    (hT : ∀ t ∈ T, s'.tmps t = s.tmps t) (hN : ∀ n ∈ N, s'.mem n = s.mem n) (h : (fitTr ρ N L s' v).holds Φ) (hR : Rel tid I B w0 nt E0 m0 E s' a w) : Rel tid I B w0 nt E0 m0 (E.ren ρ) (s.head T N L v) a w ∧ Φ () := by
  unfold fitTr at h
  split at h
  · rename_i p q hp hq
    cases hk : okFit ρ N L v <;> rw [hk] at h
    · exact h.elim
    · obtain ⟨h1, h2, h3⟩ := h
      refine ⟨?_, h3⟩
      obtain ⟨l1, f1⟩ := fitT_ok hp h1
      obtain ⟨l2, f2⟩ := fitB_ok hq h2
      simp only [okFit, Bool.and_eq_true] at hk
      obtain ⟨⟨⟨⟨k1, k2⟩, k3⟩, k4⟩, k5⟩ := hk
      have hst : ∀ n, stays L N n = true → ren ρ n = none := by
        intro n hn
        refine ren_out k1 fun hr => ?_
        simp only [stays, Bool.or_eq_true, Bool.and_eq_true, Bool.not_eq_true', ← Bool.not_eq_true, has_iff] at hn
        rw [has_iff] at hr
        rcases hn with hn | hn
        · exact hd.keyB n hn (hd.rows n hr)
        · exact hn.2 hr
      have hNs : ∀ n ∈ N, stays L N n = true := fun n hn => by simp only [stays, Bool.or_eq_true, has_iff]; exact .inl hn
      have hdom : ∀ n, (has N n || has L.keysB n) = true → ((s.head T N L v).mem n).isSome = true := by
        intro n hn
        rw [Bool.or_eq_true, has_iff, has_iff] at hn
        show (upds _ _ n).isSome = true
        rw [upds_some, zip_keys l2, Bool.or_eq_true, has_iff]
        rcases hn with hn | hn
        · left
          rw [has_iff.2 hn]
          have := hd.name n hn
          unfold okName at this
          split at this
          · rename_i k hk; simp [hk]
          · cases this
        · exact .inr hn
      have hstd : ∀ n, stays L N n = true → ((s.head T N L v).mem n).isSome = true := fun n hn => hdom n (by
        simp only [stays, Bool.or_eq_true, Bool.and_eq_true] at hn ⊢
        rcases hn with hn | hn
        · exact .inl hn
        · exact .inr hn.1)
      have slotN : ∀ t ∈ T, ∀ u, s.tmps t = some u → ∀ n ∈ u.names, stays L N n = true := by
        intro t ht u hu n hn
        have := hd.slot t ht
        unfold okSlot at this
        rw [hu] at this
        exact (PV.ok_iff _ _).1 this n hn
      have nameN : ∀ b ∈ N, ∀ k, s.mem b = some k → ∀ n ∈ k.names, stays L N n = true := by
        intro b hb k hk n hn
        have := hd.name b hb
        unfold okName at this
        rw [hk] at this
        exact (Blk.ok_iff _ _).1 this n hn
      have emb : ∀ u : PV, (∀ n ∈ u.names, stays L N n = true) → u.emb (E.ren ρ) = u.emb E := fun u hu => PV.emb_congr u fun n hn => Env.ren_none (hst n (hu n hn))
      have embs : ∀ l : List PV, (∀ n ∈ PV.namess l, stays L N n = true) → PV.embs (E.ren ρ) l = PV.embs E l := fun l hl => PV.embs_congr l fun n hn => Env.ren_none (hst n (hl n hn))
      have key : ∀ b k i f, (b, k) ∈ L.keysB.zip v.2 → k.own = true → (E.ren ρ).at_ b = some (i, f) → ∃ c k', tgt ρ b = some c ∧ s'.mem c = some k' ∧ k'.own = true ∧ E.at_ c = some (i, f) := by
        intro b k i f hb ho hi
        obtain ⟨r, e1, e2⟩ := f2 b k hb
        unfold fit1 at e1
        split at e1
        · rename_i hr
          rw [(Env.ren_nil (E := E) hr).1] at hi; cases hi
        · rename_i c hr
          split at e1
          · rename_i k' hk'
            have e3 := (eqBlk_ok (Env.ren_some hr) e1 e2 (hR.mem.blk c k' hk')).2
            exact ⟨c, k', by unfold tgt; rw [hr], hk', by rw [e3]; exact ho, by rw [← (Env.ren_some (E := E) hr).1]; exact hi⟩
          · cases e1
        · rename_i hr
          split at e1
          · rename_i k' hk'
            have e3 := (eqBlk_ok (Env.ren_none hr) e1 e2 (hR.mem.blk b k' hk')).2
            exact ⟨b, k', by unfold tgt; rw [hr], hk', by rw [e3]; exact ho, by rw [← (Env.ren_none (E := E) hr).1]; exact hi⟩
          · cases e1
      refine ⟨hR.defers, hR.size, fun t u hu => ?_, fun t u hu => ?_, fun t u hu n hn => ?_, ⟨fun b k hb => ?_, fun b k hb n hn => ?_, fun b c k k' i j f g hbc hb hc o1 o2 e1 e2 => ?_⟩, hR.below, hR.base, hR.inv, fun b hb => ?_, fun b hb => ?_, ⟨hR.frame.keep, fun b k i f hb ho hi hlt => ?_⟩⟩
      · rcases head_tmps hu with hu | ⟨ht, hu⟩
        · obtain ⟨x, r, e1, e2, e3⟩ := f1 t u hu
          rw [hR.tmps t x e1]; exact eqPV_ok x u e2 e3
        · rw [hR.tmps t u (by rw [hT t ht]; exact hu), emb u (slotN t ht u hu)]
      · rcases head_tmps hu with hu | ⟨ht, hu⟩
        · obtain ⟨x, r, e1, e2, e3⟩ := f1 t u hu
          exact hR.lt t x e1
        · exact hR.lt t u (by rw [hT t ht]; exact hu)
      · rcases head_tmps hu with hu | ⟨ht, hu⟩
        · have := (List.all_eq_true.1 k4) u (List.of_mem_zip hu).2
          exact hdom n ((PV.ok_iff _ _).1 this n hn)
        · exact hstd n (slotN t ht u hu n hn)
      · rcases head_mem hb with hb | ⟨hbN, hb⟩
        · obtain ⟨r, e1, e2⟩ := f2 b k hb
          unfold fit1 at e1
          split at e1
          · rename_i hr
            split at e1
            · simp only [Option.some.injEq] at e1
              subst e1
              subst e2
              show RowOk tid B (E.ren ρ) w b _ _ _
              unfold RowOk
              rw [(Env.ren_nil (E := E) hr).1]
            · cases e1
          · rename_i c hr
            split at e1
            · rename_i k' hk'
              exact (eqBlk_ok (Env.ren_some hr) e1 e2 (hR.mem.blk c k' hk')).1
            · cases e1
          · rename_i hr
            split at e1
            · rename_i k' hk'
              exact (eqBlk_ok (Env.ren_none hr) e1 e2 (hR.mem.blk b k' hk')).1
            · cases e1
        · have := hR.mem.blk b k (by rw [hN b hbN]; exact hb)
          have rn := Env.ren_none (E := E) (hst b (hNs b hbN))
          cases k with
          | cells cs ty =>
            obtain ⟨g, g1, g2, g3⟩ := this
            refine ⟨g, by rw [rn.1]; exact g1, g2, ?_⟩
            rw [embs cs (nameN b hbN _ hb)]; exact g3
          | row own t l =>
            have this : RowOk tid B E w b own t l := this
            show RowOk tid B (E.ren ρ) w b own t l
            unfold RowOk at this ⊢
            rw [rn.1, rn.2.1, rn.2.2]
            exact this
          | gone => trivial
      · rcases head_mem hb with hb | ⟨hbN, hb⟩
        · have := (List.all_eq_true.1 k5) k (List.of_mem_zip hb).2
          exact hdom n ((Blk.ok_iff _ _).1 this n hn)
        · exact hstd n (nameN b hbN k hb n hn)
      · have out : ∀ c, c ∈ tgts ρ L.keysB v.2 → c ∉ N := by
          intro c hc
          have := List.all_eq_true.1 k3 c hc
          simpa only [Bool.not_eq_true', ← Bool.not_eq_true, has_iff] using this
        rcases head_mem hb with hb | ⟨hbN, hb⟩ <;> rcases head_mem hc with hc | ⟨hcN, hc⟩
        · obtain ⟨b', j', t1, m1, p1, q1⟩ := key b k i f hb o1 e1
          obtain ⟨c', j'', t2, m2, p2, q2⟩ := key c k' j g hc o2 e2
          exact hR.mem.apart b' c' _ _ i j f g (tgts_apart (nodupB_iff.1 k2) hb hc hbc o1 o2 t1 t2) m1 m2 p1 p2 q1 q2
        · obtain ⟨b', j', t1, m1, p1, q1⟩ := key b k i f hb o1 e1
          refine hR.mem.apart b' c _ _ i j f g (fun e => out b' (tgts_mem hb o1 t1) (e ▸ hcN)) m1 (by rw [hN c hcN]; exact hc) p1 o2 q1 ?_
          rw [← (Env.ren_none (E := E) (hst c (hNs c hcN))).1]; exact e2
        · obtain ⟨c', j', t1, m1, p1, q1⟩ := key c k' j g hc o2 e2
          refine hR.mem.apart b c' _ _ i j f g (fun e => out c' (tgts_mem hc o2 t1) (e ▸ hbN)) (by rw [hN b hbN]; exact hb) m1 o1 p1 ?_ q1
          rw [← (Env.ren_none (E := E) (hst b (hNs b hbN))).1]; exact e1
        · refine hR.mem.apart b c _ _ i j f g hbc (by rw [hN b hbN]; exact hb) (by rw [hN c hcN]; exact hc) o1 o2 ?_ ?_
          · rw [← (Env.ren_none (E := E) (hst b (hNs b hbN))).1]; exact e1
          · rw [← (Env.ren_none (E := E) (hst c (hNs c hcN))).1]; exact e2
      · have := hR.from_ b hb
        have rn := Env.ren_none (E := E) (hst b (hd.M b (hM b hb)))
        exact ⟨rn.1.trans this.1, rn.2.1.trans this.2.1, rn.2.2.trans this.2.2⟩
      · exact hstd b (hd.M b (hM b hb))
      · rcases head_mem hb with hb | ⟨hbN, hb⟩
        · obtain ⟨c, k', _, m1, p1, q1⟩ := key b k i f hb ho hi
          exact hR.frame.orig c k' i f m1 p1 q1 hlt
        · exact hR.frame.orig b k i f (by rw [hN b hbN]; exact hb) ho (by rw [← (Env.ren_none (E := E) (hst b (hNs b hbN))).1]; exact hi) hlt
  · exact h.elim
end
end Go.Proofs.YtpbklojdmkpkcaaDoor
