/- The evaluator: contracts over plain data. -/
import Derived.Test.YtpbklojdmkpkcaaDoorEvJ
namespace Go.Proofs.YtpbklojdmkpkcaaDoor
open Go Go.RowKit
set_option linter.unusedVariables false
set_option linter.unusedSimpArgs false

abbrev Mdl := Nat → List PV → (Nat → Option Blk) → Tr Out
def look {α : Type 1} : List (FuncId × α) → FuncId → Option α
  | [], _ => none
  | (g, M) :: r, f => bif Nat.beq g f then some M else look r f
def mkOrcE (et : TypeId → Option ET) (l : List (FuncId × Mdl)) (x : List (FuncId × (List PV → Tr PV))) : Orc := { call := look l, ext := look x, et := et }
theorem look_mem {α : Type 1} : ∀ {l : List (FuncId × α)} {f : FuncId} {M : α}, look l f = some M → (f, M) ∈ l
  | (g, N) :: r, f, M, h => by
    unfold look at h
    cases hb : Nat.beq g f <;> rw [hb] at h
    · exact List.mem_cons_of_mem _ (look_mem h)
    · have hgf : g = f := Nat.beq_eq ▸ hb
      simp only [cond_true, Option.some.injEq] at h
      subst h; subst hgf; exact List.mem_cons_self
def AllOk (P : Program) (tid : ET → TypeId) (I : WInv) : List (FuncId × Mdl) → Prop
  | [] => True
  | (f, M) :: r => CallOk P tid I f M ∧ AllOk P tid I r
def ExtOk (P : Program) (f : FuncId) (M : List PV → Tr PV) : Prop := ∀ (args : List PV) (v : PV) (E : Env) (w : World), (M args).run = some v → (callFunc f (args.map (PV.emb E)).toArray).run P w = .ok (.value (v.emb E)) w
def AllExt (P : Program) : List (FuncId × (List PV → Tr PV)) → Prop
  | [] => True
  | (f, M) :: r => ExtOk P f M ∧ AllExt P r
theorem AllOk.mem {P : Program} {tid : ET → TypeId} {I : WInv} : ∀ {l : List (FuncId × Mdl)}, AllOk P tid I l → ∀ p ∈ l, CallOk P tid I p.1 p.2
  | q :: r, h, p, hp => by
    rcases List.mem_cons.1 hp with rfl | hp
    · exact h.1
    · exact AllOk.mem h.2 p hp
theorem AllOk.app {P : Program} {tid : ET → TypeId} {I : WInv} : ∀ {l m : List (FuncId × Mdl)}, AllOk P tid I l → AllOk P tid I m → AllOk P tid I (l ++ m)
  | [], _, _, h => h
  | _ :: _, _, h1, h2 => ⟨h1.1, AllOk.app h1.2 h2⟩
theorem AllExt.mem {P : Program} : ∀ {l : List (FuncId × (List PV → Tr PV))}, AllExt P l → ∀ p ∈ l, ExtOk P p.1 p.2
  | q :: r, h, p, hp => by
    rcases List.mem_cons.1 hp with rfl | hp
    · exact h.1
    · exact AllExt.mem h.2 p hp
theorem mkOrcE_ok {P : Program} {tid : ET → TypeId} {I : WInv} {et : TypeId → Option ET} {l : List (FuncId × Mdl)} {x : List (FuncId × (List PV → Tr PV))} (he : ∀ t e, et t = some e → tid e = t) (h : AllOk P tid I l) (hx : AllExt P x) : OrcOk P tid I (mkOrcE et l x) :=
  ⟨he, fun f M hM => AllOk.mem h _ (look_mem hM), fun f M hM => AllExt.mem hx _ (look_mem hM)⟩
/-- An entry: a function, its model, and that it is so. -/
structure Ent (P : Program) (tid : ET → TypeId) (I : WInv) where
  f : FuncId
  M : Mdl
  ok : CallOk P tid I f M
def lookE {P : Program} {tid : ET → TypeId} {I : WInv} : List (Ent P tid I) → FuncId → Option Mdl
  | [], _ => none
  | e :: r, f => bif Nat.beq e.f f then some e.M else lookE r f
def orcE {P : Program} {tid : ET → TypeId} {I : WInv} (et : TypeId → Option ET) (fuel : Nat) (l : List (Ent P tid I)) (x : List (FuncId × (List PV → Tr PV))) : Orc := { call := lookE l, ext := look x, et := et, fuel := fuel }
theorem lookE_ok {P : Program} {tid : ET → TypeId} {I : WInv} : ∀ {l : List (Ent P tid I)} {f : FuncId} {M : Mdl}, lookE l f = some M → CallOk P tid I f M
  | e :: r, f, M, h => by
    unfold lookE at h
    cases hb : Nat.beq e.f f <;> rw [hb] at h
    · exact lookE_ok h
    · have hgf : e.f = f := Nat.beq_eq ▸ hb
      simp only [cond_true, Option.some.injEq] at h
      subst h; subst hgf; exact e.ok
theorem orcE_ok {P : Program} {tid : ET → TypeId} {I : WInv} {et : TypeId → Option ET} {fuel : Nat} {l : List (Ent P tid I)} {x : List (FuncId × (List PV → Tr PV))} (he : ∀ t e, et t = some e → tid e = t) (hx : AllExt P x) : OrcOk P tid I (orcE et fuel l x) :=
  ⟨he, fun f M hM => lookE_ok hM, fun f M hM => AllExt.mem hx _ (look_mem hM)⟩
theorem enters {P : Program} {f : FuncId} {fn : Func} (hf : P.funcs[f]? = some fn) (hn : (fn.name == "runtime.NumGoroutine") = false) (hb : fn.body.isNone = false) : Enters P f := by
  intro args w
  unfold callFunc
  simp only [Sem.run_bind, run_program, Result.andThen_ok, hf, hn, Bool.false_eq_true, if_false, hb, Sem.run_pure]
def evPure (P : Program) (O : Orc) (fn : Func) (Ls : List LSpec) (args : List PV) : Tr PV := (evFunc P (mkDoer P O 0) fn Ls [] [] args fun _ => none).bind fun r => .ret r.1

/-- Whatever it comes to is so: behind a name, so that nothing unfolds it. -/
structure Good {α : Type} (t : Tr α) (Q : α → Prop) : Prop where
  h : t.holds Q
theorem Good.force {α : Type} {t : Tr α} {Q : α → Prop} (h : Good t.force Q) : Good t Q := ⟨Tr.holds_force h.h⟩
theorem Good.of_eq {α : Type} {t u : Tr α} {Q : α → Prop} (e : t = u) (h : u.holds Q) : Good t Q := ⟨e ▸ h⟩
/-- How data are spelled. -/
structure Cod (α : Type) where
  enc : α → PV
  dec : PV → Option α
  names : ∀ a, (enc a).names = []
  ok : ∀ v a, dec v = some a → v = enc a
theorem Cod.emb {α : Type} (A : Cod α) (a : α) (E E' : Env) : (A.enc a).emb E' = (A.enc a).emb E := PV.emb_congr _ fun n hn => by rw [A.names] at hn; cases hn
def decI (k : IntKind) : PV → Option Int
  | .raw (.int k' n) => if k' = k then some n else none
  | _ => none
def cI (k : IntKind) : Cod Int := ⟨fun n => .int k n, decI k, fun _ => rfl, fun v a h => by
  unfold decI at h; split at h
  · split at h
    · rename_i hk; cases h; subst hk; rfl
    · cases h
  · cases h⟩
def decB : PV → Option Bool
  | .raw (.bool b) => some b
  | _ => none
def cB : Cod Bool := ⟨fun b => .raw (.bool b), decB, fun _ => rfl, fun v a h => by
  unfold decB at h; split at h
  · cases h; rfl
  · cases h⟩
def PV.ints : List IntKind → List Int → List PV
  | k :: ks, n :: ns => .int k n :: PV.ints ks ns
  | _, _ => []
theorem ints_raws : ∀ (ks : List IntKind) (ns : List Int), raws (intCells ks ns) = PV.ints ks ns
  | [], _ => rfl
  | _ :: _, [] => rfl
  | k :: ks, n :: ns => by simp only [intCells, PV.ints, raws, List.map_cons]; exact congrArg _ (ints_raws ks ns)
theorem ints_names : ∀ (ks : List IntKind) (ns : List Int), PV.namess (PV.ints ks ns) = []
  | [], _ => rfl
  | _ :: _, [] => rfl
  | k :: ks, n :: ns => by simp only [PV.ints, PV.namess, PV.names, List.nil_append]; exact ints_names ks ns
/-- Structs of whole numbers. -/
def decS {α : Type} (ks : List IntKind) (mk : List Int → Option α) : PV → Option α
  | .agg l => match intsOf ks l with
    | some is => mk is
    | none => none
  | _ => none
def cS {α : Type} (ks : List IntKind) (mk : List Int → Option α) (un : α → List Int) (h : ∀ is a, mk is = some a → is = un a) : Cod α := ⟨fun a => .agg (PV.ints ks (un a)), decS ks mk, fun a => ints_names ks (un a), fun v a hv => by
  unfold decS at hv; split at hv
  · split at hv
    · rename_i is hi
      rw [intsOf_cells hi, ints_raws, h _ _ hv]
    · cases hv
  · cases hv⟩
def unFx (x : Fx) : List Int := [x.h, x.l]
theorem mkFx_un : ∀ is a, mkFx is = some a → is = unFx a := by
  intro is a h; unfold mkFx at h; split at h
  · cases h; rfl
  · cases h
def cFx : Cod Fx := cS [.i64, .u64] mkFx unFx mkFx_un
def cTw : Cod Fx := cS [.u64, .u64] mkFx unFx mkFx_un
def unVc (x : Vc) : List Int := [x.X.h, x.X.l, x.Y.h, x.Y.l]
theorem mkVc_un : ∀ is a, mkVc is = some a → is = unVc a := by
  intro is a h; unfold mkVc at h; split at h
  · cases h; rfl
  · cases h
def cVc : Cod Vc := cS [.i64, .u64, .i64, .u64] mkVc unVc mkVc_un
def cFo : Cod Vc := cS [.u64, .u64, .u64, .u64] mkVc unVc mkVc_un

/-- Contracts of functions of one, two, .. arguments. -/
def G1 {α γ : Type} (A : Cod α) (e : γ → PV) (pre : α → Prop) [∀ a, Decidable (pre a)] (g : α → γ) : List PV → Tr PV
  | [x] => match A.dec x with
    | some a => .chk (decide (pre a)) (.ret (e (g a)))
    | none => .bad 80
  | _ => .bad 80
def G2 {α β γ : Type} (A : Cod α) (B : Cod β) (e : γ → PV) (pre : α → β → Prop) [∀ a b, Decidable (pre a b)] (g : α → β → γ) : List PV → Tr PV
  | [x, y] => match A.dec x, B.dec y with
    | some a, some b => .chk (decide (pre a b)) (.ret (e (g a b)))
    | _, _ => .bad 81
  | _ => .bad 81
def G3 {α β γ δ : Type} (A : Cod α) (B : Cod β) (C : Cod γ) (e : δ → PV) (pre : α → β → γ → Prop) [∀ a b c, Decidable (pre a b c)] (g : α → β → γ → δ) : List PV → Tr PV
  | [x, y, z] => match A.dec x, B.dec y, C.dec z with
    | some a, some b, some c => .chk (decide (pre a b c)) (.ret (e (g a b c)))
    | _, _, _ => .bad 82
  | _ => .bad 82
def G0 {γ : Type} (e : γ → PV) (g : γ) : List PV → Tr PV
  | [] => .ret (e g)
  | _ => .bad 79
/-- All results are spelled without names. -/
class Bare {γ : Type} (e : γ → PV) : Prop where
  h : ∀ c, (e c).names = []
instance {α : Type} (A : Cod α) : Bare A.enc := ⟨A.names⟩
def PV.two {α β : Type} (A : Cod α) (B : Cod β) (x : α × β) : PV := .tup [A.enc x.1, B.enc x.2]
instance {α β : Type} (A : Cod α) (B : Cod β) : Bare (PV.two A B) := ⟨fun c => by simp [PV.two, PV.names, PV.namess, A.names, B.names]⟩
section
variable {P : Program} {tid : ET → TypeId} {I : WInv} {f : FuncId} {α β γ δ : Type} {A : Cod α} {B : Cod β} {C : Cod γ}
def C1 (P : Program) (I : WInv) (f : FuncId) (A : Cod α) (e : γ → PV) (pre : α → Prop) (g : α → γ) : Prop := ∀ a, pre a → ∀ E, Comp P I f [(A.enc a).emb E] ((e (g a)).emb E)
def C2 (P : Program) (I : WInv) (f : FuncId) (A : Cod α) (B : Cod β) (e : γ → PV) (pre : α → β → Prop) (g : α → β → γ) : Prop := ∀ a b, pre a b → ∀ E, Comp P I f [(A.enc a).emb E, (B.enc b).emb E] ((e (g a b)).emb E)
def C3 (P : Program) (I : WInv) (f : FuncId) (A : Cod α) (B : Cod β) (C : Cod γ) (e : δ → PV) (pre : α → β → γ → Prop) (g : α → β → γ → δ) : Prop :=
  ∀ a b c, pre a b c → ∀ E, Comp P I f [(A.enc a).emb E, (B.enc b).emb E, (C.enc c).emb E] ((e (g a b c)).emb E)
def C0 (P : Program) (I : WInv) (f : FuncId) (e : γ → PV) (g : γ) : Prop := ∀ E, Comp P I f [] ((e g).emb E)
theorem C0.ok {e : γ → PV} [hB : Bare e] {g : γ} (he : Enters P f) (h : C0 P I f e g) : CallOk P tid I f (Pure1 (G0 e g)) := by
  refine .of_comp he fun args v hv => ?_
  unfold G0 at hv
  split at hv
  · cases hv
    exact ⟨hB.h _, fun E => h E⟩
  · cases hv
theorem C1.ok {e : γ → PV} [hB : Bare e] {pre : α → Prop} [∀ a, Decidable (pre a)] {g : α → γ} (he : Enters P f) (h : C1 P I f A e pre g) : CallOk P tid I f (Pure1 (G1 A e pre g)) := by
  refine .of_comp he fun args v hv => ?_
  unfold G1 at hv
  split at hv
  · split at hv
    · rename_i x a ha
      obtain ⟨hp, hv⟩ := run_chk hv
      rw [decide_eq_true_iff] at hp
      cases hv
      exact ⟨hB.h _, fun E => by rw [A.ok _ _ ha]; exact h a hp E⟩
    · cases hv
  · cases hv
theorem C2.ok {e : γ → PV} [hB : Bare e] {pre : α → β → Prop} [∀ a b, Decidable (pre a b)] {g : α → β → γ} (he : Enters P f) (h : C2 P I f A B e pre g) : CallOk P tid I f (Pure1 (G2 A B e pre g)) := by
  refine .of_comp he fun args v hv => ?_
  unfold G2 at hv
  split at hv
  · split at hv
    · rename_i x y a b ha hb
      obtain ⟨hp, hv⟩ := run_chk hv
      rw [decide_eq_true_iff] at hp
      cases hv
      exact ⟨hB.h _, fun E => by rw [A.ok _ _ ha, B.ok _ _ hb]; exact h a b hp E⟩
    · cases hv
  · cases hv
theorem C3.ok {e : δ → PV} [hB : Bare e] {pre : α → β → γ → Prop} [∀ a b c, Decidable (pre a b c)] {g : α → β → γ → δ} (he : Enters P f) (h : C3 P I f A B C e pre g) : CallOk P tid I f (Pure1 (G3 A B C e pre g)) := by
  refine .of_comp he fun args v hv => ?_
  unfold G3 at hv
  split at hv
  · split at hv
    · rename_i x y z a b c ha hb hc
      obtain ⟨hp, hv⟩ := run_chk hv
      rw [decide_eq_true_iff] at hp
      cases hv
      exact ⟨hB.h _, fun E => by rw [A.ok _ _ ha, B.ok _ _ hb, C.ok _ _ hc]; exact h a b c hp E⟩
    · cases hv
  · cases hv
variable {O : Orc} {fn : Func}
theorem C0.ev (Ls : List LSpec) {e : γ → PV} [hB : Bare e] {g : γ} (hm : P.follows .mixedOrders = true) (hO : OrcOk P tid I O) (hf : P.funcs[f]? = some fn) (h : Good (evPure P O fn Ls []) fun r => r = e g) : C0 P I f e g :=
  fun E => Comp.of_ev (args := []) hm hO hf (Nat.zero_le _) rfl (hB.h _) (by have := h.h; unfold evPure at this; rwa [Tr.holds_bind] at this) E
theorem C1.ev (Ls : α → List LSpec) {e : γ → PV} [hB : Bare e] {pre : α → Prop} {g : α → γ} (hm : P.follows .mixedOrders = true) (hO : OrcOk P tid I O) (hf : P.funcs[f]? = some fn) (hn : 1 ≤ fn.ntmps) (h : ∀ a, pre a → Good (evPure P O fn (Ls a) [A.enc a]) fun r => r = e (g a)) : C1 P I f A e pre g :=
  fun a hp E => Comp.of_ev (args := [A.enc a]) hm hO hf hn (by simp [PV.namess, A.names]) (hB.h _) (by have := (h a hp).h; unfold evPure at this; rwa [Tr.holds_bind] at this) E
theorem C2.ev (Ls : α → β → List LSpec) {e : γ → PV} [hB : Bare e] {pre : α → β → Prop} {g : α → β → γ} (hm : P.follows .mixedOrders = true) (hO : OrcOk P tid I O) (hf : P.funcs[f]? = some fn) (hn : 2 ≤ fn.ntmps) (h : ∀ a b, pre a b → Good (evPure P O fn (Ls a b) [A.enc a, B.enc b]) fun r => r = e (g a b)) : C2 P I f A B e pre g :=
  fun a b hp E => Comp.of_ev (args := [A.enc a, B.enc b]) hm hO hf hn (by simp [PV.namess, A.names, B.names]) (hB.h _) (by have := (h a b hp).h; unfold evPure at this; rwa [Tr.holds_bind] at this) E
theorem C3.ev (Ls : α → β → γ → List LSpec) {e : δ → PV} [hB : Bare e] {pre : α → β → γ → Prop} {g : α → β → γ → δ} (hm : P.follows .mixedOrders = true) (hO : OrcOk P tid I O) (hf : P.funcs[f]? = some fn) (hn : 3 ≤ fn.ntmps) (h : ∀ a b c, pre a b c → Good (evPure P O fn (Ls a b c) [A.enc a, B.enc b, C.enc c]) fun r => r = e (g a b c)) :
    C3 P I f A B C e pre g :=
  fun a b c hp E => Comp.of_ev (args := [A.enc a, B.enc b, C.enc c]) hm hO hf hn (by simp [PV.namess, A.names, B.names, C.names]) (hB.h _) (by have := (h a b c hp).h; unfold evPure at this; rwa [Tr.holds_bind] at this) E
def e0 {e : γ → PV} [Bare e] {g : γ} (h : C0 P I f e g) (hf : P.funcs[f]? = some fn) (hn : (fn.name == "runtime.NumGoroutine") = false := by rfl) (hb : fn.body.isNone = false := by rfl) : Ent P tid I := ⟨f, Pure1 (G0 e g), h.ok (enters hf hn hb)⟩
def e1 {e : γ → PV} [Bare e] {pre : α → Prop} [∀ a, Decidable (pre a)] {g : α → γ} (h : C1 P I f A e pre g) (hf : P.funcs[f]? = some fn) (hn : (fn.name == "runtime.NumGoroutine") = false := by rfl) (hb : fn.body.isNone = false := by rfl) : Ent P tid I := ⟨f, Pure1 (G1 A e pre g), h.ok (enters hf hn hb)⟩
def e2 {e : γ → PV} [Bare e] {pre : α → β → Prop} [∀ a b, Decidable (pre a b)] {g : α → β → γ} (h : C2 P I f A B e pre g) (hf : P.funcs[f]? = some fn) (hn : (fn.name == "runtime.NumGoroutine") = false := by rfl) (hb : fn.body.isNone = false := by rfl) : Ent P tid I := ⟨f, Pure1 (G2 A B e pre g), h.ok (enters hf hn hb)⟩
def e3 {e : δ → PV} [Bare e] {pre : α → β → γ → Prop} [∀ a b c, Decidable (pre a b c)] {g : α → β → γ → δ} (h : C3 P I f A B C e pre g) (hf : P.funcs[f]? = some fn) (hn : (fn.name == "runtime.NumGoroutine") = false := by rfl) (hb : fn.body.isNone = false := by rfl) : Ent P tid I := ⟨f, Pure1 (G3 A B C e pre g), h.ok (enters hf hn hb)⟩
end
end Go.Proofs.YtpbklojdmkpkcaaDoor
