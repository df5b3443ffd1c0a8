/- The evaluator: code, functions, contracts. -/
import Derived.Test.YtpbklojdmkpkcaaDoorEvI
namespace Go.Proofs.YtpbklojdmkpkcaaDoor
open Go Go.RowKit
set_option linter.unusedVariables false
set_option linter.unusedSimpArgs false

def Ex.to : Ex → Exit
  | .normal => .normal
  | .ret => .ret
  | .exit id => .exit id
def ress (P : Program) (s : St) : List ResultVar → Option (List PV)
  | [] => some []
  | .tmp t :: r => match s.tmps t, ress P s r with
    | some v, some l => some (v :: l)
    | _, _ => none
  | .cell x t :: r => match s.tmps x, ress P s r with
    | some (.ptr b sz i off), some l => match s.mem b with
      | some (.cells cs _) => match partPV P t cs (i * sz + off) with
        | some v => some (v :: l)
        | none => none
      | _ => none
    | _, _ => none
def resOf (P : Program) (fn : Func) (s : St) : Option PV := match ress P s fn.results.toList with
  | some [v] => some v
  | some l => some (.tup l)
  | none => none
def initSt (args : List PV) (m : Nat → Option Blk) : St := { tmps := fun t => args[t]?, mem := m }
def evFunc (P : Program) (D : Doer) (fn : Func) (args : List PV) (m : Nat → Option Blk) : Tr (PV × St) := match fn.body with
  | some c => (evCode D fn.ntmps c (initSt args m)).bind fun (e, s) => match e with
    | .exit _ => .bad 70
    | _ => match resOf P fn s with
      | some v => .ret (v, s)
      | none => .bad 71
  | none => .bad 72

section
variable {P : Program} {tid : ET → TypeId} {I : WInv} {B : Nat} {w0 : World} {nt : Nat} {E0 : Env} {m0 : Nat → Option Blk} {D : Doer}
def Rl (tid : ET → TypeId) (I : WInv) (B : Nat) (w0 : World) (nt : Nat) (E0 : Env) (m0 : Nat → Option Blk) (s : St) (a : Act) (w : World) : Prop := ∃ E, Rel tid I B w0 nt E0 m0 E s a w
/-- What is said of a loop: whatever comes of it is so. -/
def LoopWp (P : Program) (tid : ET → TypeId) (I : WInv) (B : Nat) (w0 : World) (nt : Nat) (E0 : Env) (m0 : Nat → Option Blk) (body : Code) (s : St) (Ψ : Ex → St → Prop) : Prop :=
  ∀ (a : Act) (w : World) (Q : Exit → Act → World → Prop), Rl tid I B w0 nt E0 m0 s a w → (∀ e s' a' w', Ψ e s' → Rl tid I B w0 nt E0 m0 s' a' w' → Q e.to a' w') → (Code.loop body).wp P Q a w
theorem LoopWp.mono (b : Code) (s : St) (Ψ Ψ' : Ex → St → Prop) (h : ∀ e s, Ψ e s → Ψ' e s) (hL : LoopWp P tid I B w0 nt E0 m0 b s Ψ) : LoopWp P tid I B w0 nt E0 m0 b s Ψ' :=
  fun a w Q hR hQ => hL a w Q hR fun e s' a' w' hp hr => hQ e s' a' w' (h e s' hp) hr
theorem Rl.drew {s : St} {a : Act} {w : World} {n : Nat} (h : Rl tid I B w0 nt E0 m0 s a w) : Rl tid I B w0 nt E0 m0 s a { w with drawn := n } := by
  obtain ⟨E, h⟩ := h
  exact ⟨E, h.defers, h.size, h.tmps, h.lt, h.tok, ⟨h.mem.blk, h.mem.ok, h.mem.apart⟩, ⟨h.below.os, h.below.tape, h.below.output, h.below.size, h.below.block⟩, h.base, I.below _ _ _ h.inv ⟨rfl, rfl, rfl, Nat.le_refl _, fun _ _ => rfl⟩, h.from_, h.dom⟩
theorem code_ok (hm : P.follows .mixedOrders = true) (hD : DoerOk P tid I D) (hl : D.Local) : ∀ (c : Code) (s : St) (Φ : Ex × St → Prop) (a : Act) (w : World) (Q : Exit → Act → World → Prop),
    (evCode D nt c s).holds (LoopWp P tid I B w0 nt E0 m0) Φ → Rl tid I B w0 nt E0 m0 s a w → (∀ e s' a' w', Φ (e, s') → Rl tid I B w0 nt E0 m0 s' a' w' → Q e.to a' w') → c.wp P Q a w := by
  intro c
  induction c with
  | skip => intro s Φ a w Q h hR hQ; exact wp_skip (hQ .normal s a w h hR)
  | region id ops draw =>
    intro s Φ a w Q h hR hQ
    simp only [evCode, Tr.holds_bind, Tr.holds] at h
    exact region_ok hm hl (execs hD) (fun s a w n hR => Rl.drew hR) hR h (fun s' a' w' hp hr => hQ .normal s' a' w' hp hr)
  | seq x y ihx ihy =>
    intro s Φ a w Q h hR hQ
    simp only [evCode, Tr.holds_bind] at h
    refine wp_seq (ihx s _ a w _ h hR fun e s' a' w' hp hr => ?_)
    cases e with
    | normal => exact ihy s' Φ a' w' Q hp hr hQ
    | ret => exact hQ .ret s' a' w' hp hr
    | exit id => exact hQ (.exit id) s' a' w' hp hr
  | cond c x y ihx ihy =>
    intro s Φ a w Q h hR hQ
    simp only [evCode] at h
    split at h
    · rename_i b hc
      obtain ⟨E, hE⟩ := hR
      exact wp_cond_split (t := b) (hE.op1 hc) (fun hb => ihx s Φ a w Q (by have := h.1 hb; rwa [knowO_self (by rw [hc, hb])] at this) ⟨E, hE⟩ hQ) (fun hb => ihy s Φ a w Q (by have := h.2 hb; rwa [knowO_self (by rw [hc, hb])] at this) ⟨E, hE⟩ hQ)
    · exact h.elim
  | block id c ih =>
    intro s Φ a w Q h hR hQ
    simp only [evCode, Tr.holds_bind] at h
    refine wp_block (ih s _ a w _ h hR fun e s' a' w' hp hr => ?_)
    cases e with
    | normal => exact hQ .normal s' a' w' hp hr
    | ret => exact hQ .ret s' a' w' hp hr
    | exit j =>
      simp only [Ex.to, Exit.inBlock]
      cases hj : Nat.beq j id
      · rw [if_neg (fun e => by rw [e, nb] at hj; cases hj)]
        simp only [hj, cond_false] at hp
        exact hQ (.exit j) s' a' w' hp hr
      · rw [if_pos (Nat.beq_eq ▸ hj)]
        simp only [hj, cond_true] at hp
        exact hQ .normal s' a' w' hp hr
  | loop b ih =>
    intro s Φ a w Q h hR hQ
    exact h a w Q hR fun e s' a' w' hp hr => hQ e s' a' w' hp hr
  | exit id => intro s Φ a w Q h hR hQ; exact wp_exit (hQ (.exit id) s a w h hR)
  | scope c _ => intro s Φ a w Q h hR hQ; exact h.elim
  | ret => intro s Φ a w Q h hR hQ; exact wp_ret (hQ .ret s a w h hR)
  | rangeFunc f ps x y _ _ => intro s Φ a w Q h hR hQ; exact h.elim
  | label l => intro s Φ a w Q h hR hQ; exact h.elim
  | goto l => intro s Φ a w Q h hR hQ; exact h.elim
  | refuse y => intro s Φ a w Q h hR hQ; exact h.elim
theorem ress_run {E : Env} {s : St} {a : Act} {w : World} (h : Rel tid I B w0 nt E0 m0 E s a w) : ∀ {rs : List ResultVar} {l : List PV}, ress P s rs = some l →
    (rs.mapM (fun | .tmp t => pure (a.tmps.getD t undef) | .cell x t => do loadVar t (← asAddr (a.tmps.getD x undef))) : Sem (List Value)).run P w = .ok (l.map (PV.emb E)) w
  | [], l, hl => by simp only [ress, Option.some.injEq] at hl; subst hl; rfl
  | .tmp t :: r, l, hl => by
    simp only [ress] at hl
    split at hl
    · rename_i v l' hv hr
      simp only [Option.some.injEq] at hl
      subst hl
      have ih := ress_run h hr
      rw [List.mapM_cons]
      simp only [Sem.run_bind, Sem.run_pure, Result.andThen_ok, ih, h.tmps t v hv, List.map_cons]
    · cases hl
  | .cell x t :: r, l, hl => by
    simp only [ress] at hl
    split at hl
    · rename_i b sz i off l' hv hr
      split at hl
      · rename_i cs ty hb
        split at hl
        · rename_i v hp
          simp only [Option.some.injEq] at hl
          subst hl
          have ih := ress_run h hr
          obtain ⟨k, hk, _, hw⟩ := h.mem.blk b _ hb
          have := partPV_load (w := w) (k := k) (q0 := 0) (E := E) hp (fun j v hj => by
            simp only [World.cell?, hw, Nat.zero_add]
            simpa using hj)
          rw [List.mapM_cons, Sem.run_bind]
          have e1 : (asAddr (a.tmps.getD x undef)).run P w = .ok ⟨k, 0 + (i * sz + off), none⟩ w := by
            rw [h.tmps x _ hv]
            simp only [PV.emb, hk, Option.getD_some, asAddr, Sem.run_pure]
          simp only [Sem.run_bind, e1, Result.andThen_ok, this, ih, Sem.run_pure, List.map_cons]
        · cases hl
      · cases hl
    · cases hl
theorem results_run {E : Env} {s : St} {a : Act} {w : World} {fn : Func} {v : PV} (h : Rel tid I B w0 nt E0 m0 E s a w) (hv : resOf P fn s = some v) : (results fn a.tmps).run P w = .ok (v.emb E) w := by
  have key : ∀ l, ress P s fn.results.toList = some l → (results fn a.tmps).run P w = .ok (if h : (l.map (PV.emb E)).toArray.size = 1 then (l.map (PV.emb E)).toArray[0] else .tuple (l.map (PV.emb E)).toArray) w := by
    intro l hl
    have h1 := ress_run h hl
    unfold results
    rw [← Array.toArray_toList (xs := fn.results), List.mapM_toArray, Sem.run_bind, Sem.run_map]
    erw [h1]
    rfl
  unfold resOf at hv
  split at hv
  · rename_i u hu
    simp only [Option.some.injEq] at hv
    subst hv
    rw [key _ hu]; simp
  · rename_i l hn hl
    simp only [Option.some.injEq] at hv
    subst hv
    rw [key _ hl]
    have : (l.map (PV.emb E)).toArray.size ≠ 1 := by
      intro e
      match l, hn with
      | [x], hn => exact hn x rfl
      | [], _ => simp at e
      | _ :: _ :: _, _ => simp at e
    rw [dif_neg this]
    simp [PV.emb, embs_map]
  · cases hv
/-- A function, walked. -/
theorem func_ok (hm : P.follows .mixedOrders = true) (hD : DoerOk P tid I D) (hl : D.Local) {f : FuncId} {fn : Func} {args : List PV} {m : Nat → Option Blk} {E : Env} {w : World} {Φ : PV × St → Prop} (hf : P.funcs[f]? = some fn) (ha : args.length ≤ fn.ntmps)
    (hn : ∀ v ∈ args, ∀ n ∈ v.names, (m n).isSome = true) (hM : MemRel tid w.heap.size E m w) (hI : I.p w.heap.size w) (h : (evFunc P D fn args m).holds (LoopWp P tid I w.heap.size w fn.ntmps E m) Φ) :
    Calls P f (args.map (PV.emb E)).toArray w fun e w' => ∃ v s E' a', e = .returned (v.emb E') ∧ Φ (v, s) ∧ Rel tid I w.heap.size w fn.ntmps E m E' s a' w' := by
  unfold evFunc at h
  cases hb : fn.body with
  | none => rw [hb] at h; exact h.elim
  | some c =>
    rw [hb] at h
    simp only [Tr.holds_bind] at h
    refine calls_of_wp hf hb (code_ok hm hD hl c _ _ _ w _ h ?_ ?_)
    · refine ⟨E, rfl, by simp; omega, fun t v hv => ?_, fun t v hv => ?_, fun t v hv n hn' => ?_, hM, .refl _ _, Nat.le_refl _, hI, .refl _ _, fun _ h => h⟩
      · simp only [initSt] at hv
        have := (List.getElem?_eq_some_iff.1 hv).1
        rw [Array.getD_eq_getD_getElem?, Array.getElem?_append_left (by simpa using this)]
        simp [hv]
      · simp only [initSt] at hv
        have := (List.getElem?_eq_some_iff.1 hv).1
        omega
      · simp only [initSt] at hv
        exact hn v (List.mem_of_getElem? hv) n hn'
    · intro e s' a' w' hp ⟨E', hr⟩
      have fin : ∀ v, resOf P fn s' = some v → Φ (v, s') → a'.defers = [] ∧ ∃ v, (results fn a'.tmps).run P w' = .ok v w' ∧ ∃ u s E' a', Ending.returned v = .returned (u.emb E') ∧ Φ (u, s) ∧ Rel tid I w.heap.size w fn.ntmps E m E' s a' w' :=
        fun v hv hΦ => ⟨hr.defers, v.emb E', results_run hr hv, v, s', E', a', rfl, hΦ, hr⟩
      cases e with
      | exit id => exact hp.elim
      | normal =>
        simp only at hp
        split at hp
        · exact fin _ ‹_› hp
        · exact hp.elim
      | ret =>
        simp only at hp
        split at hp
        · exact fin _ ‹_› hp
        · exact hp.elim
end
/-- A function that only computes. -/
def Pure1 (G : List PV → Tr PV) : Nat → List PV → (Nat → Option Blk) → Tr Out := fun _ args _ => (G args).bind putT
/-- A call that only computes, whatever the world. -/
def Comp (P : Program) (I : WInv) (f : FuncId) (args : List Value) (v : Value) : Prop := ∀ w : World, I.p w.heap.size w → Calls P f args.toArray w fun e w' => e = .returned v ∧ Below w.heap.size w w'
theorem CallOk.of_comp {P : Program} {tid : ET → TypeId} {I : WInv} {f : FuncId} {G : List PV → Tr PV} (he : Enters P f) (h : ∀ args v, (G args).run = some v → v.names = [] ∧ ∀ E, Comp P I f (args.map (PV.emb E)) (v.emb E)) : CallOk P tid I f (Pure1 G) := by
  refine ⟨he, fun nb B args m R out E w hn hM hB hI hr hf hu hnm hnd => ?_⟩
  obtain ⟨v, hv, rfl⟩ := bind_putT hr
  obtain ⟨h1, h2⟩ := h args v hv
  refine (h2 E w (I.mono _ _ _ hI hB)).mono fun e w' hh => ⟨E, hh.1, .refl _ _, ?_, hh.2.mono hB⟩
  refine ⟨fun b k hb => (hM.blk b k hb).keep ⟨rfl, rfl, rfl⟩ (fun _ _ => ⟨rfl, rfl, rfl⟩) (fun i f hi => hh.2.block i ?_), hM.ok, hM.apart⟩
  have hbk := hM.blk b k hb
  cases ho : k.own
  · cases k with
    | cells _ _ => cases ho
    | row own t l =>
      have ho : own = false := ho
      have hbk : RowOk tid B E w b own t l := hbk
      unfold RowOk at hbk
      rw [hi] at hbk
      exact Nat.lt_of_lt_of_le (hbk.2.2.2.1 ho) hB
  · obtain ⟨_, _, c, t, hh⟩ := own_at hbk ho hi
    exact (Array.getElem?_eq_some_iff.1 hh).1
/-- Out of an evaluation. -/
theorem Comp.of_ev {P : Program} {tid : ET → TypeId} {I : WInv} {O : Orc} (hm : P.follows .mixedOrders = true) (hO : OrcOk P tid I O) {f : FuncId} {fn : Func} {args : List PV} {v : PV} (hf : P.funcs[f]? = some fn) (ha : args.length ≤ fn.ntmps) (hn : PV.namess args = []) (hv : v.names = [])
    (h : ∀ L : Code → St → (Ex → St → Prop) → Prop, (evFunc P (mkDoer P O 0) fn args fun _ => none).holds L fun r => r.1 = v) (E : Env) : Comp P I f (args.map (PV.emb E)) (v.emb E) := by
  intro w hI
  refine (func_ok hm (core_ok hO 0) (mkDoer_local P O 0) hf ha (m := fun _ => none) (E := E) (w := w) (fun u hu n hnn => ?_) ⟨fun _ _ h => (by cases h), fun _ _ h => (by cases h), fun _ _ _ _ _ _ _ _ _ h => (by cases h)⟩ hI (h _)).mono ?_
  · have : n ∈ PV.namess args := (namess_mem _).2 ⟨u, hu, hnn⟩
    rw [hn] at this; cases this
  · rintro e w' ⟨u, s, E', a', rfl, rfl, hr⟩
    exact ⟨by rw [PV.emb_congr (E := E) (E' := E') u (fun n hn => by rw [hv] at hn; cases hn)], hr.below⟩
end Go.Proofs.YtpbklojdmkpkcaaDoor
