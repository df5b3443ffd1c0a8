/- The evaluator: contracts of functions that are handed an address of the caller's, and turn what lies there. -/
import Derived.Test.YtpbklojdmkpkcaaDoorInl
namespace Go.Proofs.YtpbklojdmkpkcaaDoor
open Go Go.RowKit
set_option linter.unusedVariables false
set_option linter.unusedSimpArgs false

/-- Lists of plain values. -/
structure LCod (α : Type) where
  enc : α → List PV
  dec : List PV → Option α
  names : ∀ a, PV.namess (enc a) = []
  ok : ∀ l a, dec l = some a → l = enc a
def lNil : LCod Unit := ⟨fun _ => [], fun l => match l with
    | [] => some ()
    | _ => none, fun _ => rfl, fun l a h => by
  split at h
  · rfl
  · cases h⟩
def decC {α β : Type} (A : Cod α) (B : LCod β) : List PV → Option (α × β)
  | v :: r => match A.dec v, B.dec r with
    | some a, some b => some (a, b)
    | _, _ => none
  | [] => none
def lCons {α β : Type} (A : Cod α) (B : LCod β) : LCod (α × β) := ⟨fun x => A.enc x.1 :: B.enc x.2, decC A B, fun x => by simp [PV.namess, A.names, B.names], fun l x h => by
  unfold decC at h
  split at h
  · split at h
    · rename_i a b ha hb
      cases h
      rw [A.ok _ _ ha, B.ok _ _ hb]
    · cases h
  · cases h⟩
/-- Numbers side by side. -/
def lInts {α : Type} (ks : List IntKind) (mk : List Int → Option α) (un : α → List Int) (h : ∀ is a, mk is = some a → is = un a) : LCod α := ⟨fun a => PV.ints ks (un a), fun l => match intsOf ks l with
    | some is => mk is
    | none => none, fun a => ints_names ks (un a), fun l a hl => by
  split at hl
  · rename_i is hi
    rw [intsOf_cells hi, ints_raws, h _ _ hl]
  · cases hl⟩
def lInt (k : IntKind) : LCod Int := lInts [k] mk1 (fun n => [n]) fun is a h => by
  unfold mk1 at h; split at h
  · cases h; rfl
  · cases h
def insAt (p : Nat) (l : List PV) (v : PV) : List PV := l.take p ++ v :: l.drop p
def one1B (k : Blk) : Nat → Option Blk := fun n => match n with
  | 0 => some k
  | _ + 1 => none
theorem one1B_is {k k' : Blk} {n : Nat} (h : one1B k n = some k') : n = 0 ∧ k' = k := by
  cases n with
  | zero => cases h; exact ⟨rfl, rfl⟩
  | succ n => cases h
section
variable {α σ γ : Type}
def KP (P : Program) (tid : ET → TypeId) (I : WInv) (f : FuncId) (p : Nat) (ty : TypeId) (A : LCod α) (S : LCod σ) (e : γ → PV) (pre : α → σ → Prop) (g : α → σ → γ × σ) : Prop :=
  ∀ a s, pre a s → ∀ (B : Nat) (E : Env) (w : World), B ≤ w.heap.size → I.p B w → MemRel tid B E (one1B (.cells (S.enc s) ty)) w →
    Calls P f ((insAt p (A.enc a) (.ptr 0 0 0 0)).map (PV.emb E)).toArray w fun r w' => r = .returned ((e (g a s).1).emb E) ∧ Below B w w' ∧
      ∃ E', E'.at_ 0 = E.at_ 0 ∧ MemRel tid B E' (one1B (.cells (S.enc (g a s).2) ty)) w' ∧ Fr (one1B (.cells (S.enc s) ty)) E w (one1B (.cells (S.enc (g a s).2) ty)) E' w'
def MP (p : Nat) (ty : TypeId) (A : LCod α) (S : LCod σ) (e : γ → PV) (pre : α → σ → Prop) [∀ a s, Decidable (pre a s)] (g : α → σ → γ × σ) : Mdl := fun nb args m => match args[p]? with
  | some (.ptr b sz i off) => match m b with
    | some (.cells cs ty') => bif Nat.beq ty' ty && Nat.beq (i * sz + off) 0 then match A.dec (args.take p ++ args.drop (p + 1)), S.dec cs with
        | some a, some s => .chk (decide (pre a s)) (.ret { put := e (g a s).1, ups := [(b, .cells (S.enc (g a s).2) ty')] })
        | _, _ => .bad 110
      else .bad 111
    | _ => .bad 112
  | _ => .bad 113
theorem KP.ok {P : Program} {tid : ET → TypeId} {I : WInv} {f : FuncId} {p : Nat} {ty : TypeId} {A : LCod α} {S : LCod σ} {e : γ → PV} [hBe : Bare e] {pre : α → σ → Prop} [∀ a s, Decidable (pre a s)] {g : α → σ → γ × σ} (he : Enters P f) (h : KP P tid I f p ty A S e pre g) : CallOk P tid I f (MP p ty A S e pre g) := by
  refine ⟨he, fun nb B args m R out E w hn hM hB hI hr hf hu hnm hnd => ?_⟩
  unfold MP at hr
  split at hr
  · rename_i b sz i off harg
    split at hr
    · rename_i cs ty' hb
      have hb := restr_sub hb
      cases hc : (Nat.beq ty' ty && Nat.beq (i * sz + off) 0) <;> rw [hc] at hr
      · cases hr
      rw [Bool.and_eq_true] at hc
      have ht : ty' = ty := Nat.beq_eq ▸ hc.1
      have ho : i * sz + off = 0 := Nat.beq_eq ▸ hc.2
      subst ht
      simp only [cond_true] at hr
      split at hr
      · rename_i a s ha hs
        obtain ⟨hp, hr⟩ := run_chk hr
        rw [decide_eq_true_iff] at hp
        cases hr
        have hs := S.ok _ _ hs
        subst hs
        have ha := A.ok _ _ ha
        obtain ⟨k, hk, hBk, hw⟩ := hM.blk b _ hb
        have noS : ∀ (s : σ) (E E' : Env), PV.embs E (S.enc s) = PV.embs E' (S.enc s) := fun s E E' => PV.embs_congr _ fun n hnn => by rw [S.names] at hnn; cases hnn
        let E1 : Env := ⟨fun n => if n = 0 then E.at_ b else none, fun _ => 0, fun _ => 0⟩
        have hE1 : E1.at_ 0 = some (k, 0) := by simp only [E1, if_true]; exact hk
        have hM1 : MemRel tid B E1 (one1B (.cells (S.enc s) ty')) w := by
          refine ⟨fun n kk hh => ?_, fun n kk hh x hx => ?_, fun n c kk kc x y ff gg hne h1 h2 => ?_⟩
          · obtain ⟨rfl, rfl⟩ := one1B_is hh
            exact ⟨k, hE1, hBk, by rw [noS s E1 E]; exact hw⟩
          · obtain ⟨rfl, rfl⟩ := one1B_is hh
            rw [show (Blk.cells (S.enc s) ty').names = PV.namess (S.enc s) from rfl, S.names] at hx; cases hx
          · obtain ⟨rfl, _⟩ := one1B_is h1
            obtain ⟨rfl, _⟩ := one1B_is h2
            exact absurd rfl hne
        have hlt : p < args.length := (List.getElem?_eq_some_iff.1 harg).1
        have hargs : args.map (PV.emb E) = (insAt p (A.enc a) (.ptr 0 0 0 0)).map (PV.emb E1) := by
          have e1 : args = insAt p (A.enc a) (.ptr b sz i off) := by
            unfold insAt
            rw [← ha]
            have hl : (args.take p).length = p := by simp; omega
            rw [List.take_append_of_le_length (by omega), List.drop_append_of_le_length (by omega), List.take_take, Nat.min_self, List.drop_eq_nil_of_le (as := args.take p) (by omega), List.nil_append]
            have := List.getElem?_eq_some_iff.1 harg
            rw [← this.2, List.getElem_cons_drop, List.take_append_drop]
          have plain : ∀ l : List PV, (∀ v ∈ l, v.names = []) → l.map (PV.emb E) = l.map (PV.emb E1) := fun l hl => List.map_congr_left fun v hv => PV.emb_congr v fun n hnn => by rw [hl v hv] at hnn; cases hnn
          have nA : ∀ v ∈ A.enc a, v.names = [] := fun v hv => by
            refine List.eq_nil_iff_forall_not_mem.2 fun n hnn => ?_
            have := (namess_mem (n := n) (A.enc a)).2 ⟨v, hv, hnn⟩
            rw [A.names] at this; cases this
          rw [e1]
          unfold insAt
          rw [List.map_append, List.map_append, List.map_cons, List.map_cons, plain _ (fun v hv => nA v (List.mem_of_mem_take hv)), plain _ (fun v hv => nA v (List.mem_of_mem_drop hv))]
          have e2 : (PV.ptr b sz i off).emb E = (PV.ptr 0 0 0 0).emb E1 := by
            simp only [PV.emb, hk, hE1, Option.getD_some, ho, Nat.mul_zero, Nat.add_zero]
          rw [e2]
        rw [hargs]
        refine (h a s hp B E1 w hB hI hM1).mono fun r w' hh => ?_
        obtain ⟨rfl, hbel, E', hat, hM', hF⟩ := hh
        have hk' : E'.at_ 0 = some (k, 0) := by rw [hat]; exact hE1
        have only : ∀ c kc ff j, one1B (.cells (S.enc s) ty') c = some kc → E1.at_ c = some (j, ff) → j = k := by
          intro c kc ff j h1 h2
          obtain ⟨rfl, _⟩ := one1B_is h1
          rw [hE1] at h2; cases h2; rfl
        have klt : k < w.heap.size := (Array.getElem?_eq_some_iff.1 hw).1
        have same : ∀ j, j < w.heap.size → j ≠ k → w'.heap[j]? = w.heap[j]? := fun j hj hne => hF.keep j hj fun c kc ff h1 _ h3 => hne (only c kc ff j h1 h3)
        have is : ∀ c kc, upds m [(b, .cells (S.enc (g a s).2) ty')] c = some kc → (c = b ∧ kc = .cells (S.enc (g a s).2) ty') ∨ (c ≠ b ∧ m c = some kc) := by
          intro c kc hcc
          rcases upds_cases' _ _ hcc with hcc | ⟨h1, h2⟩
          · simp at hcc; exact .inl hcc
          · simp at h1; exact .inr ⟨h1, h2⟩
        have dom : ∀ n, (m n).isSome = true → (upds m [(b, .cells (S.enc (g a s).2) ty')] n).isSome = true := fun n hn => by rw [upds_some, hn]; rfl
        refine ⟨E, ?_, .refl _ _, ⟨fun c kc hcc => ?_, fun c kc hcc n hnn => ?_, fun c d kc kd x y ff gg hne h1 h2 o1 o2 a1 a2 => ?_⟩, hbel, ⟨fun j hj hno => ?_, fun c kc j ff h1 h2 h3 hj => ?_⟩⟩
        · congr 1
          exact PV.emb_congr _ fun n hnn => by rw [hBe.h] at hnn; cases hnn
        · rcases is c kc hcc with ⟨rfl, rfl⟩ | ⟨h1, h2⟩
          · obtain ⟨k2, q1, q2, q3⟩ := hM'.blk 0 _ rfl
            rw [hk'] at q1
            cases q1
            exact ⟨k, hk, hBk, by rw [noS _ E E']; exact q3⟩
          · by_cases hg : kc = .gone
            · subst hg; trivial
            refine (hM.blk c kc h2).keep ⟨rfl, rfl, rfl⟩ (fun _ _ => ⟨rfl, rfl, rfl⟩) fun j ff hj => ?_
            cases hoc : kc.own
            · cases kc with
              | cells _ _ => cases hoc
              | gone => exact absurd rfl hg
              | row own t l =>
                have hoc : own = false := hoc
                have := hM.blk c _ h2
                unfold BlkOk RowOk at this
                rw [hj] at this
                exact hbel.block j (this.2.2.2.1 hoc)
            · obtain ⟨_, _, cu, t, hh⟩ := own_at (hM.blk c kc h2) hoc hj
              exact same j (Array.getElem?_eq_some_iff.1 hh).1 (hM.apart c b kc _ j k ff 0 h1 h2 hb hoc rfl hj hk)
        · rcases is c kc hcc with ⟨rfl, rfl⟩ | ⟨h1, h2⟩
          · rw [show (Blk.cells (S.enc (g a s).2) ty').names = PV.namess (S.enc (g a s).2) from rfl, S.names] at hnn; cases hnn
          · exact dom n (hM.ok c kc h2 n hnn)
        · rcases is c kc h1 with ⟨rfl, rfl⟩ | ⟨c1, c2⟩ <;> rcases is d kd h2 with ⟨rfl, rfl⟩ | ⟨d1, d2⟩
          · exact absurd rfl hne
          · exact hM.apart c d _ kd x y ff gg hne hb d2 rfl o2 a1 a2
          · exact hM.apart c d kc _ x y ff gg hne c2 hb o1 rfl a1 a2
          · exact hM.apart c d kc kd x y ff gg hne c2 d2 o1 o2 a1 a2
        · refine same j hj fun e => hno b _ 0 hb rfl (by rw [e]; exact hk)
        · rcases is c kc h1 with ⟨rfl, rfl⟩ | ⟨c1, c2⟩
          · exact ⟨c, _, ff, hb, rfl, h3⟩
          · exact ⟨c, kc, ff, c2, h2, h3⟩
      · cases hr
    · cases hr
  · cases hr
/-- What the evaluation comes to. -/
def evP (P : Program) (O : Orc) (fn : Func) (Ls : List LSpec) (p : Nat) (ty : TypeId) (A : LCod α) (S : LCod σ) (a : α) (s : σ) : Tr (PV × σ) :=
  (evFunc P (mkDoer P O 100) fn Ls [0] [] (insAt p (A.enc a) (.ptr 0 0 0 0)) (one1B (.cells (S.enc s) ty))).bind fun r => match r.2.mem 0 with
    | some (.cells cs ty') => bif Nat.beq ty' ty then match S.dec cs with
        | some s' => .ret (r.1, s')
        | none => .bad 114
      else .bad 115
    | _ => .bad 116
theorem KP.ev {P : Program} {tid : ET → TypeId} {I : WInv} {f : FuncId} {fn : Func} {O : Orc} {p : Nat} {ty : TypeId} {A : LCod α} {S : LCod σ} {e : γ → PV} [hBe : Bare e] {pre : α → σ → Prop} {g : α → σ → γ × σ} (Ls : α → σ → List LSpec) (hm : P.follows .mixedOrders = true) (hO : OrcOk P tid I O) (hf : P.funcs[f]? = some fn)
    (hl : ∀ a, (A.enc a).length + 1 ≤ fn.ntmps) (h : ∀ a s, pre a s → Good (evP P O fn (Ls a s) p ty A S a s) fun r => r = (e (g a s).1, (g a s).2)) : KP P tid I f p ty A S e pre g := by
  intro a s hp B E w hB hI hM
  have h1 := (h a s hp).h
  unfold evP at h1
  rw [Tr.holds_bind] at h1
  refine (func_ok hm (core_ok hO 100) (mkDoer_local P O 100) hf ?_ (M := [0]) (fun u hu n hnn => ?_) hB hM hI (fun b hb => ?_) (fun b hb => ?_) h1).mono ?_
  · unfold insAt
    have := hl a
    simp only [List.length_append, List.length_cons, List.length_take, List.length_drop]; omega
  · unfold insAt at hu
    rcases List.mem_append.1 hu with hu | hu
    · have := (namess_mem (n := n) (A.enc a)).2 ⟨u, List.mem_of_mem_take hu, hnn⟩
      rw [A.names] at this; cases this
    · rcases List.mem_cons.1 hu with rfl | hu
      · simp [PV.names] at hnn; subst hnn; rfl
      · have := (namess_mem (n := n) (A.enc a)).2 ⟨u, List.mem_of_mem_drop hu, hnn⟩
        rw [A.names] at this; cases this
  · cases b with
    | zero => exact List.mem_singleton.2 rfl
    | succ b => cases hb
  · cases hb
  · rintro r w' ⟨v, s1, E', a', rfl, hfin, hr, _⟩
    have h0 : E'.at_ 0 = E.at_ 0 := (hr.from_ 0 rfl).1
    split at hfin
    · rename_i cs ty' hcs
      cases ht : Nat.beq ty' ty <;> rw [ht] at hfin
      · exact hfin.elim
      · have ht : ty' = ty := Nat.beq_eq ▸ ht
        subst ht
        simp only [cond_true] at hfin
        split at hfin
        · rename_i s' hs'
          have hfin : (v, s') = (e (g a s).1, (g a s).2) := hfin
          have q1 : v = e (g a s).1 := congrArg (·.1) hfin
          have q2 : s' = (g a s).2 := congrArg (·.2) hfin
          have hs' := S.ok _ _ hs'
          subst hs'; subst q2; subst q1
          refine ⟨by rw [PV.emb_congr (E := E) (E' := E') _ fun n hnn => by rw [hBe.h] at hnn; cases hnn], hr.below, E', h0, ⟨fun n kk hh => ?_, fun n kk hh x hx => ?_, fun n c kk kc x y ff gg hne h1 h2 => ?_⟩, ⟨hr.frame.keep, fun c kc j ff h1 h2 h3 hj => ?_⟩⟩
          · obtain ⟨rfl, rfl⟩ := one1B_is hh
            exact hr.mem.blk 0 _ hcs
          · obtain ⟨rfl, rfl⟩ := one1B_is hh
            rw [show (Blk.cells (S.enc (g a s).2) ty').names = PV.namess (S.enc (g a s).2) from rfl, S.names] at hx; cases hx
          · obtain ⟨rfl, _⟩ := one1B_is h1
            obtain ⟨rfl, _⟩ := one1B_is h2
            exact absurd rfl hne
          · obtain ⟨rfl, rfl⟩ := one1B_is h1
            exact hr.frame.orig 0 _ j ff hcs rfl h3 hj
        · exact hfin.elim
    · exact hfin.elim
def eP {P : Program} {tid : ET → TypeId} {I : WInv} {f : FuncId} {fn : Func} {p : Nat} {ty : TypeId} {A : LCod α} {S : LCod σ} {e : γ → PV} [hBe : Bare e] {pre : α → σ → Prop} [∀ a s, Decidable (pre a s)] {g : α → σ → γ × σ} (h : KP P tid I f p ty A S e pre g) (hf : P.funcs[f]? = some fn)
    (hn : (fn.name == "runtime.NumGoroutine") = false := by rfl) (hb : fn.body.isNone = false := by rfl) : Ent P tid I := ⟨f, MP p ty A S e pre g, h.ok (enters hf hn hb)⟩
end
end Go.Proofs.YtpbklojdmkpkcaaDoor
