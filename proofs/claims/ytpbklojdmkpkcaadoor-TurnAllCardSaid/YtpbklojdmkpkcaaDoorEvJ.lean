/- The evaluator: code, functions, contracts. -/
import Derived.Test.YtpbklojdmkpkcaaDoorEvL
import Derived.Deep.LoopGhost
namespace Go.Proofs.YtpbklojdmkpkcaaDoor
open Go Go.RowKit
set_option linter.unusedVariables false
set_option linter.unusedSimpArgs false

def Ex.to : Ex → Exit
  | .normal => .normal
  | .ret => .ret
  | .exit id => .exit id
def ress (P : Program) (s : St) : List ResultVar → Option (List PV)
  | [] => some []
  | .tmp t :: r => match s.tmps t, ress P s r with
    | some v, some l => some (v :: l)
    | _, _ => none
  | .cell x t :: r => match s.tmps x, ress P s r with
    | some (.ptr b sz i off), some l => match s.mem b with
      | some (.cells cs _) => match partPV P t cs (i * sz + off) with
        | some v => some (v :: l)
        | none => none
      | _ => none
    | _, _ => none
def resOf (P : Program) (fn : Func) (s : St) : Option PV := match ress P s fn.results.toList with
  | some [v] => some v
  | some l => some (.tup l)
  | none => none
def initSt (args : List PV) (m : Nat → Option Blk) : St := { tmps := fun t => args[t]?, mem := m }
def evFunc (P : Program) (D : Nat → Doer) (fn : Func) (Ls : List LSpec) (M lb : List Nat) (args : List PV) (m : Nat → Option Blk) : Tr (PV × St) := match fn.body with
  | some c => (evCode D fn.ntmps M c 0 Ls [] lb (initSt args m)).bind fun (e, s) => match e with
    | .exit _ => .bad 70
    | _ => match resOf P fn s with
      | some v => .ret (v, s)
      | none => .bad 71
  | none => .bad 72

section
variable {P : Program} {tid : ET → TypeId} {I : WInv} {B : Nat} {w0 : World} {nt : Nat} {E0 : Env} {m0 : Nat → Option Blk} {D : Doer}
def Rl (tid : ET → TypeId) (I : WInv) (B : Nat) (w0 : World) (nt : Nat) (E0 : Env) (m0 : Nat → Option Blk) (s : St) (a : Act) (w : World) : Prop := ∃ E, Rel tid I B w0 nt E0 m0 E s a w
theorem Rl.drew {s : St} {a : Act} {w : World} {n : Nat} (h : Rl tid I B w0 nt E0 m0 s a w) : Rl tid I B w0 nt E0 m0 s a { w with drawn := n } := by
  obtain ⟨E, h⟩ := h
  exact ⟨E, h.defers, h.size, h.tmps, h.lt, h.tok, ⟨h.mem.blk, h.mem.ok, h.mem.apart⟩, ⟨h.below.os, h.below.tape, h.below.output, h.below.size, h.below.block⟩, h.base, I.below _ _ _ h.inv ⟨rfl, rfl, rfl, Nat.le_refl _, fun _ _ => rfl⟩, h.from_, h.dom, ⟨h.frame.keep, h.frame.orig⟩⟩
def Kept (lt lb : List Nat) (s s' : St) : Prop := (∀ t ∈ lt, s'.tmps t = s.tmps t) ∧ ∀ n ∈ lb, s'.mem n = s.mem n
theorem lockD_run {lb : List Nat} {o : Oper} {vals : List PV} {m : Nat → Option Blk} {out : Out} (h : ((lockD D lb).core o vals m).run = some out) : (D.core o vals m).run = some out ∧ ∀ u ∈ out.ups, u.1 ∉ lb := by
  simp only [lockD, Tr.run_bind, Option.bind_eq_some_iff] at h
  obtain ⟨x, hx, h⟩ := h
  cases hb : x.ups.all fun u => !has lb u.1 <;> rw [hb] at h
  · cases h
  · cases h
    refine ⟨hx, fun u hu => ?_⟩
    have := List.all_eq_true.1 hb u hu
    simpa only [Bool.not_eq_true', ← Bool.not_eq_true, has_iff] using this
theorem lockD_ok (hD : DoerOk P tid I D) (lb : List Nat) : DoerOk P tid I (lockD D lb) := fun B o vals m out E a w K Q h1 h2 h3 h4 h5 h6 => hD B o vals m out E a w K Q h1 h2 h3 h4 h5 (lockD_run h6).1
theorem Kept.app {lt lb : List Nat} {s0 s : St} {ops : Array Oper} {o : Oper} {out : Out} {c : Rec} (h : Kept lt lb s0 s) (hst : StepAt (lockD D lb) nt ops o s out c) (hd : ∀ t ∈ lt, t ∉ o.dst.toList) (hs : ∀ n ∈ lb, (s0.mem n).isSome = true) : Kept lt lb s0 (s.app o.dst out) := by
  refine ⟨fun t ht => ?_, fun n hn => ?_⟩
  · rw [app_tmps_ne (hd t ht)]; exact h.1 t ht
  · rw [app_mem_ne ?_]
    · exact h.2 n hn
    · intro hm
      rcases all_mem.1 hm with hm | hm
      · cases hst with
        | did g vals hv hr hk hc =>
          obtain ⟨u, hu, rfl⟩ := List.mem_map.1 hm
          have := ((okOut_iff.1 hk).2.1.1 u hu).1
          have h2 := hs _ hn
          rw [← h.2 _ hn, this] at h2
          cases h2
        | skipped g ho' hk hc => subst ho'; simp [skipOut] at hm
      · cases hst with
        | did g vals hv hr hk hc =>
          obtain ⟨u, hu, rfl⟩ := List.mem_map.1 hm
          exact (lockD_run hr).2 u hu hn
        | skipped g ho' hk hc => subst ho'; simp [skipOut] at hm
theorem head_T {s : St} {T N : List Nat} {L : LSpec} {v : List PV × List Blk} {t : Nat} (ht : t ∈ T) (hk : t ∉ L.keysT) : (s.head T N L v).tmps t = s.tmps t := by
  show upds _ _ t = _
  rw [upds_out]
  · rw [has_iff.2 ht]; rfl
  · intro hm
    obtain ⟨u, hu, rfl⟩ := List.mem_map.1 hm
    exact hk (List.of_mem_zip (a := u.1) (b := u.2) hu).1
theorem head_N {s : St} {T N : List Nat} {L : LSpec} {v : List PV × List Blk} {t : Nat} (ht : t ∈ N) (hk : t ∉ L.keysB) : (s.head T N L v).mem t = s.mem t := by
  show upds _ _ t = _
  rw [upds_out]
  · rw [has_iff.2 ht]; rfl
  · intro hm
    obtain ⟨u, hu, rfl⟩ := List.mem_map.1 hm
    exact hk (List.of_mem_zip (a := u.1) (b := u.2) hu).1
theorem code_ok {D : Nat → Doer} {M : List Nat} (hm : P.follows .mixedOrders = true) (hD : ∀ k, DoerOk P tid I (D k)) (hl : ∀ k, (D k).Local) (hM : ∀ b, (m0 b).isSome = true → b ∈ M) : ∀ (c : Code) (k : Nat) (Ls : List LSpec) (lt lb : List Nat) (s : St) (Φ : Ex × St → Prop) (a : Act) (w : World) (Q : Exit → Act → World → Prop),
    (∀ t ∈ lt, t ∉ asg c) → (∀ n ∈ lb, (s.mem n).isSome = true) → (evCode D nt M c k Ls lt lb s).holds Φ → Rl tid I B w0 nt E0 m0 s a w → (∀ e s' a' w', Φ (e, s') → Rl tid I B w0 nt E0 m0 s' a' w' → Kept lt lb s s' → Q e.to a' w') → c.wp P Q a w := by
  intro c
  induction c with
  | skip => intro k Ls lt lb s Φ a w Q ha hb h hR hQ; exact wp_skip (hQ .normal s a w h hR ⟨fun _ _ => rfl, fun _ _ => rfl⟩)
  | region id ops draw =>
    intro k Ls lt lb s Φ a w Q ha hb h hR hQ
    simp only [evCode, Tr.holds_bind, Tr.holds] at h
    refine region_ok (R := fun s' a w => Rl tid I B w0 nt E0 m0 s' a w ∧ Kept lt lb s s') hm (D := lockD (D k) lb) (show (lockD (D k) lb).Local from hl k) ?_ (fun s a w n hR => ⟨Rl.drew hR.1, hR.2⟩) ⟨hR, fun _ _ => rfl, fun _ _ => rfl⟩ h (fun s' a' w' hp hr => hQ .normal s' a' w' hp hr.1 hr.2)
    intro i o s1 out c a w K ho hst hR hK
    refine execs (lockD_ok (hD k) lb) i o s1 out c a w K ho hst hR.1 (fun a' w' h => hK a' w' ⟨h, hR.2.app hst (fun t ht hd => ha t ht ?_) hb⟩)
    exact List.mem_flatMap.2 ⟨o, Array.mem_toList_iff.2 (Array.mem_of_getElem? ho), hd⟩
  | seq x y ihx ihy =>
    intro k Ls lt lb s Φ a w Q ha hb h hR hQ
    simp only [evCode, Tr.holds_bind] at h
    refine wp_seq (ihx k Ls lt lb s _ a w _ (fun t ht h => ha t ht (List.mem_append_left _ h)) hb h hR fun e s' a' w' hp hr hk => ?_)
    cases e with
    | normal => exact ihy k _ lt lb s' Φ a' w' Q (fun t ht h => ha t ht (List.mem_append_right _ h)) (fun n hn => by rw [hk.2 n hn]; exact hb n hn) hp hr fun e s2 a2 w2 hp hr hk2 => hQ e s2 a2 w2 hp hr ⟨fun t ht => (hk2.1 t ht).trans (hk.1 t ht), fun n hn => (hk2.2 n hn).trans (hk.2 n hn)⟩
    | ret => exact hQ .ret s' a' w' hp hr hk
    | exit id => exact hQ (.exit id) s' a' w' hp hr hk
  | cond c x y ihx ihy =>
    intro k Ls lt lb s Φ a w Q ha hb h hR hQ
    simp only [evCode] at h
    split at h
    · rename_i b hc
      obtain ⟨E, hE⟩ := hR
      exact wp_cond_split (t := b) (hE.op1 hc)
        (fun hbt => ihx k _ lt lb s Φ a w Q (fun t ht h => ha t ht (List.mem_append_left _ h)) hb (by have := h.1 hbt; rwa [knowO_self (by rw [hc, hbt])] at this) ⟨E, hE⟩ hQ)
        (fun hbt => ihy k _ lt lb s Φ a w Q (fun t ht h => ha t ht (List.mem_append_right _ h)) hb (by have := h.2 hbt; rwa [knowO_self (by rw [hc, hbt])] at this) ⟨E, hE⟩ hQ)
    · rename_i b neg hc
      split at h
      · rename_i own t l hbm
        obtain ⟨E, hE⟩ := hR
        have hrow : RowOk tid B E w b own t l := hE.mem.blk b _ hbm
        have hl : (E.at_ b).isNone = true → l = [] := fun hn => by
          unfold RowOk at hrow
          rw [Option.isNone_iff_eq_none] at hn
          rw [hn] at hrow; exact hrow
        have h := h (E.at_ b).isNone hl
        exact wp_cond_split (t := neg != (E.at_ b).isNone) (hE.op1 hc) (fun hbt => ihx k _ lt lb s Φ a w Q (fun t ht h => ha t ht (List.mem_append_left _ h)) hb (h.1 hbt) ⟨E, hE⟩ hQ)
          (fun hbt => ihy k _ lt lb s Φ a w Q (fun t ht h => ha t ht (List.mem_append_right _ h)) hb (h.2 hbt) ⟨E, hE⟩ hQ)
      · exact h.elim
    · exact h.elim
  | block id c ih =>
    intro k Ls lt lb s Φ a w Q ha hb h hR hQ
    simp only [evCode, Tr.holds_bind] at h
    refine wp_block (ih k Ls lt lb s _ a w _ ha hb h hR fun e s' a' w' hp hr hk => ?_)
    cases e with
    | normal => exact hQ .normal s' a' w' hp hr hk
    | ret => exact hQ .ret s' a' w' hp hr hk
    | exit j =>
      simp only [Ex.to, Exit.inBlock]
      cases hj : Nat.beq j id
      · rw [if_neg (fun e => by rw [e, nb] at hj; cases hj)]
        simp only [hj, cond_false] at hp
        exact hQ (.exit j) s' a' w' hp hr hk
      · rw [if_pos (Nat.beq_eq ▸ hj)]
        simp only [hj, cond_true] at hp
        exact hQ .normal s' a' w' hp hr hk
  | loop b ih =>
    intro k Ls lt lb s Φ a w Q ha hb h hR hQ
    simp only [evCode] at h
    -- round by round
    have un : ∀ (r : List LSpec) (n : Nat), (evUn (fun j s => evCode D nt M b (round k j) r lt lb s) n 0 s).holds Φ → (Code.loop b).wp P Q a w := by
      intro r n hn
      refine wp_loop_ghost (fun n a w => ∃ j s', (evUn (fun j s => evCode D nt M b (round k j) r lt lb s) n j s').holds Φ ∧ Rl tid I B w0 nt E0 m0 s' a w ∧ Kept lt lb s s') n ⟨0, s, hn, hR, fun _ _ => rfl, fun _ _ => rfl⟩ ?_
      rintro n a w ⟨j, s1, h1, hR1, hk1⟩
      cases n with
      | zero => exact h1.elim
      | succ n =>
        simp only [evUn] at h1
        rw [Tr.holds_bind] at h1
        refine ih (round k j) r lt lb s1 _ a w _ ha (fun n hn => by rw [hk1.2 n hn]; exact hb n hn) h1 hR1 fun e s' a' w' hp hr hk => ?_
        have hkk : Kept lt lb s s' := ⟨fun t ht => (hk.1 t ht).trans (hk1.1 t ht), fun n hn => (hk.2 n hn).trans (hk1.2 n hn)⟩
        cases e with
        | normal => exact ⟨n, Nat.lt_succ_self n, j + 1, s', hp, hr, hkk⟩
        | ret => exact hQ .ret s' a' w' hp hr hkk
        | exit id => exact hQ (.exit id) s' a' w' hp hr hkk
    split at h
    · exact un _ _ h
    · rename_i L r
      split at h
      · exact un _ _ h
      · split at h
        · exact h.elim
        · rename_i x0 ρ0 hx0
          obtain ⟨T, N, hd, h⟩ := atHead_ok h
          rw [Tr.holds_bind] at h
          obtain ⟨E, hE⟩ := hR
          obtain ⟨r0, i0, h⟩ := fit_rel hM hd (fun _ _ => rfl) (fun _ _ => rfl) h hE
          refine wp_loop_ghost (fun n a w => ∃ x, L.inv s x ∧ L.μ s x = n ∧ Rl tid I B w0 nt E0 m0 (s.head T N L (L.enc s x)) a w) (L.μ s x0) ⟨x0, i0, rfl, _, r0⟩ ?_
          rintro n a w ⟨x, hx, rfl, hRx⟩
          have hx2 := h x hx
          rw [Tr.holds_bind] at hx2
          refine ih k r T N _ _ a w _ hd.asg (fun n hn => ?_) hx2 hRx fun e s' a' w' hp hr hk => ?_
          · rw [head_N hn (hd.keyB n hn)]
            have := hd.name n hn
            unfold okName at this
            split at this
            · rename_i k hk; simp [hk]
            · cases this
          have hk1 : ∀ t ∈ T, s'.tmps t = s.tmps t := fun t ht => (hk.1 t ht).trans (head_T ht (hd.keyT t ht))
          have hk2 : ∀ n ∈ N, s'.mem n = s.mem n := fun n hn => (hk.2 n hn).trans (head_N hn (hd.keyB n hn))
          have hkk : Kept lt lb s s' := ⟨fun t ht => hk1 t (hd.lt t ht), fun n hn => hk2 n (hd.lb n hn)⟩
          cases e with
          | normal =>
            simp only [atBack] at hp
            split at hp
            · rename_i y ρ hy
              rw [Tr.holds_bind] at hp
              obtain ⟨E', hE'⟩ := hr
              obtain ⟨r1, i1, i2, _⟩ := fit_rel hM hd hk1 hk2 hp hE'
              exact ⟨L.μ s y, i2, y, i1, rfl, _, r1⟩
            · exact hp.elim
          | ret => exact hQ .ret s' a' w' hp hr hkk
          | exit id => exact hQ (.exit id) s' a' w' hp hr hkk
  | exit id => intro k Ls lt lb s Φ a w Q ha hb h hR hQ; exact wp_exit (hQ (.exit id) s a w h hR ⟨fun _ _ => rfl, fun _ _ => rfl⟩)
  | scope c _ => intro k Ls lt lb s Φ a w Q ha hb h hR hQ; exact h.elim
  | ret => intro k Ls lt lb s Φ a w Q ha hb h hR hQ; exact wp_ret (hQ .ret s a w h hR ⟨fun _ _ => rfl, fun _ _ => rfl⟩)
  | rangeFunc f ps x y _ _ => intro k Ls lt lb s Φ a w Q ha hb h hR hQ; exact h.elim
  | label l => intro k Ls lt lb s Φ a w Q ha hb h hR hQ; exact h.elim
  | goto l => intro k Ls lt lb s Φ a w Q ha hb h hR hQ; exact h.elim
  | refuse y => intro k Ls lt lb s Φ a w Q ha hb h hR hQ; exact h.elim
theorem ress_run {E : Env} {s : St} {a : Act} {w : World} (h : Rel tid I B w0 nt E0 m0 E s a w) : ∀ {rs : List ResultVar} {l : List PV}, ress P s rs = some l →
    (rs.mapM (fun | .tmp t => pure (a.tmps.getD t undef) | .cell x t => do loadVar t (← asAddr (a.tmps.getD x undef))) : Sem (List Value)).run P w = .ok (l.map (PV.emb E)) w
  | [], l, hl => by simp only [ress, Option.some.injEq] at hl; subst hl; rfl
  | .tmp t :: r, l, hl => by
    simp only [ress] at hl
    split at hl
    · rename_i v l' hv hr
      simp only [Option.some.injEq] at hl
      subst hl
      have ih := ress_run h hr
      rw [List.mapM_cons]
      simp only [Sem.run_bind, Sem.run_pure, Result.andThen_ok, ih, h.tmps t v hv, List.map_cons]
    · cases hl
  | .cell x t :: r, l, hl => by
    simp only [ress] at hl
    split at hl
    · rename_i b sz i off l' hv hr
      split at hl
      · rename_i cs ty hb
        split at hl
        · rename_i v hp
          simp only [Option.some.injEq] at hl
          subst hl
          have ih := ress_run h hr
          obtain ⟨k, hk, _, hw⟩ := h.mem.blk b _ hb
          have := partPV_load (w := w) (k := k) (q0 := 0) (E := E) hp (fun j v hj => by
            simp only [World.cell?, hw, Nat.zero_add]
            simpa using hj)
          rw [List.mapM_cons, Sem.run_bind]
          have e1 : (asAddr (a.tmps.getD x undef)).run P w = .ok ⟨k, 0 + (i * sz + off), none⟩ w := by
            rw [h.tmps x _ hv]
            simp only [PV.emb, hk, Option.getD_some, asAddr, Sem.run_pure]
          simp only [Sem.run_bind, e1, Result.andThen_ok, this, ih, Sem.run_pure, List.map_cons]
        · cases hl
      · cases hl
    · cases hl
theorem results_run {E : Env} {s : St} {a : Act} {w : World} {fn : Func} {v : PV} (h : Rel tid I B w0 nt E0 m0 E s a w) (hv : resOf P fn s = some v) : (results fn a.tmps).run P w = .ok (v.emb E) w := by
  have key : ∀ l, ress P s fn.results.toList = some l → (results fn a.tmps).run P w = .ok (if h : (l.map (PV.emb E)).toArray.size = 1 then (l.map (PV.emb E)).toArray[0] else .tuple (l.map (PV.emb E)).toArray) w := by
    intro l hl
    have h1 := ress_run h hl
    unfold results
    rw [← Array.toArray_toList (xs := fn.results), List.mapM_toArray, Sem.run_bind, Sem.run_map]
    erw [h1]
    rfl
  unfold resOf at hv
  split at hv
  · rename_i u hu
    simp only [Option.some.injEq] at hv
    subst hv
    rw [key _ hu]; simp
  · rename_i l hn hl
    simp only [Option.some.injEq] at hv
    subst hv
    rw [key _ hl]
    have : (l.map (PV.emb E)).toArray.size ≠ 1 := by
      intro e
      match l, hn with
      | [x], hn => exact hn x rfl
      | [], _ => simp at e
      | _ :: _ :: _, _ => simp at e
    rw [dif_neg this]
    simp [PV.emb, embs_map]
  · cases hv
/-- A function, walked. -/
theorem func_ok {D : Nat → Doer} {M lb : List Nat} {Ls : List LSpec} (hm : P.follows .mixedOrders = true) (hD : ∀ k, DoerOk P tid I (D k)) (hl : ∀ k, (D k).Local) {f : FuncId} {fn : Func} {args : List PV} {m : Nat → Option Blk} {E : Env} {w : World} {Φ : PV × St → Prop} (hf : P.funcs[f]? = some fn) (ha : args.length ≤ fn.ntmps)
    (hn : ∀ v ∈ args, ∀ n ∈ v.names, (m n).isSome = true) (hB : B ≤ w.heap.size) (hM : MemRel tid B E m w) (hI : I.p B w) (hMm : ∀ b, (m b).isSome = true → b ∈ M) (hlb : ∀ n ∈ lb, (m n).isSome = true) (h : (evFunc P D fn Ls M lb args m).holds Φ) :
    Calls P f (args.map (PV.emb E)).toArray w fun e w' => ∃ v s E' a', e = .returned (v.emb E') ∧ Φ (v, s) ∧ Rel tid I B w fn.ntmps E m E' s a' w' ∧ ∀ n ∈ lb, s.mem n = m n := by
  unfold evFunc at h
  cases hb : fn.body with
  | none => rw [hb] at h; exact h.elim
  | some c =>
    rw [hb] at h
    simp only [Tr.holds_bind] at h
    refine calls_of_wp hf hb (code_ok (B := B) (w0 := w) (E0 := E) (m0 := m) hm hD hl hMm c 0 Ls [] lb _ _ _ w _ (fun _ h => by cases h) hlb h ?_ ?_)
    · refine ⟨E, rfl, by simp; omega, fun t v hv => ?_, fun t v hv => ?_, fun t v hv n hn' => ?_, hM, .refl _ _, hB, hI, .refl _ _, fun _ h => h, .refl _ _ _⟩
      · simp only [initSt] at hv
        have := (List.getElem?_eq_some_iff.1 hv).1
        rw [Array.getD_eq_getD_getElem?, Array.getElem?_append_left (by simpa using this)]
        simp [hv]
      · simp only [initSt] at hv
        have := (List.getElem?_eq_some_iff.1 hv).1
        omega
      · simp only [initSt] at hv
        exact hn v (List.mem_of_getElem? hv) n hn'
    · intro e s' a' w' hp ⟨E', hr⟩ hkp
      have fin : ∀ v, resOf P fn s' = some v → Φ (v, s') → a'.defers = [] ∧ ∃ v, (results fn a'.tmps).run P w' = .ok v w' ∧ ∃ u s E' a', Ending.returned v = .returned (u.emb E') ∧ Φ (u, s) ∧ Rel tid I B w fn.ntmps E m E' s a' w' ∧ ∀ n ∈ lb, s.mem n = m n :=
        fun v hv hΦ => ⟨hr.defers, v.emb E', results_run hr hv, v, s', E', a', rfl, hΦ, hr, hkp.2⟩
      cases e with
      | exit id => exact hp.elim
      | normal =>
        simp only at hp
        split at hp
        · exact fin _ ‹_› hp
        · exact hp.elim
      | ret =>
        simp only at hp
        split at hp
        · exact fin _ ‹_› hp
        · exact hp.elim
end
/-- A function that only computes. -/
def Pure1 (G : List PV → Tr PV) : Nat → List PV → (Nat → Option Blk) → Tr Out := fun _ args _ => (G args).bind putT
/-- A call that only computes, whatever the world. -/
def Comp (P : Program) (I : WInv) (f : FuncId) (args : List Value) (v : Value) : Prop := ∀ w : World, I.p w.heap.size w → Calls P f args.toArray w fun e w' => e = .returned v ∧ Below w.heap.size w w'
theorem CallOk.of_comp {P : Program} {tid : ET → TypeId} {I : WInv} {f : FuncId} {G : List PV → Tr PV} (he : Enters P f) (h : ∀ args v, (G args).run = some v → v.names = [] ∧ ∀ E, Comp P I f (args.map (PV.emb E)) (v.emb E)) : CallOk P tid I f (Pure1 G) := by
  refine ⟨he, fun nb B args m R out E w hn hM hB hI hr hf hu hnm hnd => ?_⟩
  obtain ⟨v, hv, rfl⟩ := bind_putT hr
  obtain ⟨h1, h2⟩ := h args v hv
  refine (h2 E w (I.mono _ _ _ hI hB)).mono fun e w' hh => ⟨E, hh.1, .refl _ _, ?_, hh.2.mono hB, Fr.more (.refl _ _) (fun i hi => hh.2.block i hi) [] fun u hu => by cases hu⟩
  refine ⟨fun b k hb => ?_, hM.ok, hM.apart⟩
  by_cases hg : k = .gone
  · subst hg; trivial
  refine (hM.blk b k hb).keep ⟨rfl, rfl, rfl⟩ (fun _ _ => ⟨rfl, rfl, rfl⟩) (fun i f hi => hh.2.block i ?_)
  have hbk := hM.blk b k hb
  cases ho : k.own
  · cases k with
    | cells _ _ => cases ho
    | gone => exact absurd rfl hg
    | row own t l =>
      have ho : own = false := ho
      have hbk : RowOk tid B E w b own t l := hbk
      unfold RowOk at hbk
      rw [hi] at hbk
      exact Nat.lt_of_lt_of_le (hbk.2.2.2.1 ho) hB
  · obtain ⟨_, _, c, t, hh⟩ := own_at hbk ho hi
    exact (Array.getElem?_eq_some_iff.1 hh).1
/-- Out of an evaluation. -/
theorem Comp.of_ev {Ls : List LSpec} {P : Program} {tid : ET → TypeId} {I : WInv} {O : Orc} (hm : P.follows .mixedOrders = true) (hO : OrcOk P tid I O) {f : FuncId} {fn : Func} {args : List PV} {v : PV} (hf : P.funcs[f]? = some fn) (ha : args.length ≤ fn.ntmps) (hn : PV.namess args = []) (hv : v.names = [])
    (h : (evFunc P (mkDoer P O 0) fn Ls [] [] args fun _ => none).holds fun r => r.1 = v) (E : Env) : Comp P I f (args.map (PV.emb E)) (v.emb E) := by
  intro w hI
  refine (func_ok hm (core_ok hO 0) (mkDoer_local P O 0) hf ha (m := fun _ => none) (E := E) (w := w) (fun u hu n hnn => ?_) (Nat.le_refl _) ⟨fun _ _ h => (by cases h), fun _ _ h => (by cases h), fun _ _ _ _ _ _ _ _ _ h => (by cases h)⟩ hI (fun _ h => by cases h) (fun _ h => by cases h) h).mono ?_
  · have : n ∈ PV.namess args := (namess_mem _).2 ⟨u, hu, hnn⟩
    rw [hn] at this; cases this
  · rintro e w' ⟨u, s, E', a', rfl, rfl, hr, _⟩
    exact ⟨by rw [PV.emb_congr (E := E) (E' := E') u (fun n hn => by rw [hv] at hn; cases hn)], hr.below⟩
end Go.Proofs.YtpbklojdmkpkcaaDoor
