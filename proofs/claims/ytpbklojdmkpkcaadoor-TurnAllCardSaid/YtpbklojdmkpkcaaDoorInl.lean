/- The evaluator: a call walked in its place. -/
import Derived.Test.YtpbklojdmkpkcaaDoorArr
namespace Go.Proofs.YtpbklojdmkpkcaaDoor
open Go Go.RowKit
set_option linter.unusedVariables false
set_option linter.unusedSimpArgs false

def uniq : List Nat → List Nat → List Nat
  | [], acc => acc
  | n :: r, acc => match has acc n with
    | true => uniq r acc
    | false => uniq r (n :: acc)
/-- The blocks of its own that a call may turn. -/
def turnsOf (m : Nat → Option Blk) (s : St) (W : List Nat) : List Nat → List (Nat × Blk)
  | [] => []
  | n :: r => match m n with
    | some k => bif k.own && has W n then (n, (s.mem n).getD .gone) :: turnsOf m s W r else turnsOf m s W r
    | none => turnsOf m s W r
/-- The blocks that are new. -/
def newsOf (s : St) (R : List Nat) : List Nat → List (Nat × Blk)
  | [] => []
  | n :: r => bif has R n then newsOf s R r else match s.mem n with
    | some k => (n, k) :: newsOf s R r
    | none => newsOf s R r
def inlOut (m : Nat → Option Blk) (R W : List Nat) (v : PV) (s : St) : Tr Out :=
  let ups := turnsOf m s W (uniq R [])
  let news := newsOf s R (uniq (reach s.mem 4 (v.names ++ ups.flatMap (·.2.names))) [])
  bif v.ok (fun n => has R n || has (news.map (·.1)) n) && (news ++ ups).all (fun u => u.2.ok fun n => has R n || has (news.map (·.1)) n) then .ret { put := v, news := news, ups := ups } else .bad 101
def inlLb (m : Nat → Option Blk) (R W : List Nat) : List Nat := R.filter fun n => !has W n
def inlM (P : Program) (O : Orc) (fn : Func) (Ls : List PV → List LSpec) (W : List PV → List Nat) : Mdl := fun nb args m =>
  let R := reach m 3 (PV.namess args)
  bif R.all (fun b => (m b).isSome && (namesIn m b).all (has R)) && Nat.ble args.length fn.ntmps then
    (evFunc P (mkDoer P O (nb * 1000000)) fn (Ls args) R (inlLb m R (W args)) args (restr m R)).bind fun r => inlOut m R (W args) r.1 r.2
  else .bad 102
theorem run_holds {α : Type} {a : α} : ∀ {t : Tr α}, t.run = some a → t.holds fun x => x = a
  | .ret b, h => by cases h; rfl
  | .ite c t e, h => by
    cases c
    · exact ⟨(fun h => by cases h), fun _ => run_holds (t := e) h⟩
    · exact ⟨fun _ => run_holds (t := t) h, (fun h => by cases h)⟩
  | .need p t, h => ⟨(run_need h).1, run_holds (run_need h).2⟩
  | .chk c t, h => ⟨(run_chk h).1, run_holds (run_chk h).2⟩
  | .all _ _ _, h => by cases h
  | .done, h => by cases h
  | .bad _, h => by cases h
theorem uniq_mem {n : Nat} : ∀ {l acc : List Nat}, n ∈ uniq l acc ↔ n ∈ l ∨ n ∈ acc
  | [], acc => by simp [uniq]
  | x :: r, acc => by
    unfold uniq
    split
    · rename_i h
      rw [uniq_mem, List.mem_cons]
      rw [has_iff] at h
      constructor
      · rintro (h1 | h1)
        · exact .inl (.inr h1)
        · exact .inr h1
      · rintro ((rfl | h1) | h1)
        · exact .inr h
        · exact .inl h1
        · exact .inr h1
    · rw [uniq_mem, List.mem_cons, List.mem_cons]
      constructor
      · rintro (h1 | h1 | h1)
        · exact .inl (.inr h1)
        · exact .inl (.inl h1)
        · exact .inr h1
      · rintro ((h1 | h1) | h1)
        · exact .inr (.inl h1)
        · exact .inl h1
        · exact .inr (.inr h1)
theorem turnsOf_mem {m : Nat → Option Blk} {s : St} {W : List Nat} {b : Nat} {k : Blk} : ∀ {l : List Nat}, (b, k) ∈ turnsOf m s W l ↔ b ∈ l ∧ b ∈ W ∧ (∃ k0, m b = some k0 ∧ k0.own = true) ∧ k = (s.mem b).getD .gone
  | [] => by simp [turnsOf]
  | x :: r => by
    have ih := turnsOf_mem (m := m) (s := s) (W := W) (b := b) (k := k) (l := r)
    unfold turnsOf
    split
    · rename_i k0 hk
      cases hc : (k0.own && has W x)
      · simp only [cond_false]
        rw [ih, List.mem_cons]
        constructor
        · rintro ⟨h1, h2⟩; exact ⟨.inr h1, h2⟩
        · rintro ⟨rfl | h1, h2, ⟨k1, h3, h4⟩, h5⟩
          · rw [hk] at h3; cases h3
            rw [h4, has_iff.2 h2] at hc; cases hc
          · exact ⟨h1, h2, ⟨k1, h3, h4⟩, h5⟩
      · simp only [cond_true, List.mem_cons, Prod.mk.injEq]
        rw [Bool.and_eq_true, has_iff] at hc
        rw [ih]
        constructor
        · rintro (⟨rfl, rfl⟩ | ⟨h1, h2⟩)
          · exact ⟨.inl rfl, hc.2, ⟨k0, hk, hc.1⟩, rfl⟩
          · exact ⟨.inr h1, h2⟩
        · rintro ⟨rfl | h1, h2, h3, h4⟩
          · exact .inl ⟨rfl, h4⟩
          · exact .inr ⟨h1, h2, h3, h4⟩
    · rename_i hk
      rw [ih, List.mem_cons]
      constructor
      · rintro ⟨h1, h2⟩; exact ⟨.inr h1, h2⟩
      · rintro ⟨rfl | h1, h2, ⟨k1, h3, h4⟩, h5⟩
        · rw [hk] at h3; cases h3
        · exact ⟨h1, h2, ⟨k1, h3, h4⟩, h5⟩
theorem newsOf_mem {s : St} {R : List Nat} {b : Nat} {k : Blk} : ∀ {l : List Nat}, (b, k) ∈ newsOf s R l → b ∉ R ∧ s.mem b = some k
  | x :: r, h => by
    unfold newsOf at h
    cases hx : has R x <;> rw [hx] at h
    · simp only [cond_false] at h
      split at h
      · rename_i k' hk
        rcases List.mem_cons.1 h with h | h
        · cases h
          exact ⟨(fun hm => by rw [has_iff.2 hm] at hx; cases hx), hk⟩
        · exact newsOf_mem h
      · exact newsOf_mem h
    · exact newsOf_mem h
section
variable {P : Program} {tid : ET → TypeId} {I : WInv}
theorem inl_ok {O : Orc} {f : FuncId} {fn : Func} (Ls : List PV → List LSpec) (W : List PV → List Nat) (hm : P.follows .mixedOrders = true) (hO : OrcOk P tid I O) (hf : P.funcs[f]? = some fn) (he : Enters P f) : CallOk P tid I f (inlM P O fn Ls W) := by
  refine ⟨he, fun nb B args m R0 out E w hn hM hB hI hr hfr hu hnm hnd => ?_⟩
  unfold inlM at hr
  simp only at hr
  generalize hmr : restr m R0 = mr at hr
  generalize hR : reach mr 3 (PV.namess args) = R at hr
  have sub0 : ∀ {b k}, mr b = some k → m b = some k := fun h => restr_sub (R := R0) (by rw [hmr]; exact h)
  cases hc : (R.all (fun b => (mr b).isSome && (namesIn mr b).all (has R)) && Nat.ble args.length fn.ntmps) <;> rw [hc] at hr
  · cases hr
  rw [Bool.and_eq_true, List.all_eq_true, Nat.ble_eq] at hc
  obtain ⟨hcl, hlen⟩ := hc
  have hcl1 : ∀ b ∈ R, (mr b).isSome = true := fun b hb => by have := hcl b hb; rw [Bool.and_eq_true] at this; exact this.1
  have hcl2 : ∀ b ∈ R, ∀ k, mr b = some k → ∀ n ∈ k.names, n ∈ R := fun b hb k hk n hnn => by
    have := hcl b hb
    rw [Bool.and_eq_true, List.all_eq_true] at this
    have := this.2 n (by unfold namesIn; rw [hk]; exact hnn)
    exact has_iff.1 this
  simp only [cond_true] at hr
  rw [Tr.run_bind, Option.bind_eq_some_iff] at hr
  obtain ⟨⟨v, s⟩, hrun, hr⟩ := hr
  generalize hm1 : restr mr R = m1 at hrun
  have m1_is : ∀ b k, m1 b = some k ↔ b ∈ R ∧ mr b = some k := by
    intro b k
    rw [← hm1]
    unfold restr
    cases hb : has R b
    · constructor
      · intro h; cases h
      · rintro ⟨h, _⟩; rw [has_iff.2 h] at hb; cases hb
    · exact ⟨fun h => ⟨has_iff.1 hb, h⟩, fun h => h.2⟩
  have m1_dom : ∀ b, (m1 b).isSome = true ↔ b ∈ R := by
    intro b
    constructor
    · intro h
      obtain ⟨k, hk⟩ := Option.isSome_iff_exists.1 h
      exact ((m1_is b k).1 hk).1
    · intro h
      obtain ⟨k, hk⟩ := Option.isSome_iff_exists.1 (hcl1 b h)
      rw [(m1_is b k).2 ⟨h, hk⟩]; rfl
  have m1_m : ∀ {b k}, m1 b = some k → m b = some k := fun h => sub0 ((m1_is _ _).1 h).2
  have hM1 : MemRel tid B E m1 w := ⟨fun b k hb => hM.blk b k (m1_m hb), fun b k hb n hnn => (m1_dom n).2 (hcl2 b ((m1_is b k).1 hb).1 k ((m1_is b k).1 hb).2 n hnn),
    fun b c k k' i j f g hne hb hc => hM.apart b c k k' i j f g hne (m1_m hb) (m1_m hc)⟩
  have hn1 : ∀ v ∈ args, ∀ n ∈ v.names, (m1 n).isSome = true := fun v hv n hnn => (m1_dom n).2 (by
    rw [← hR]; exact reach_sub n ((namess_mem _).2 ⟨v, hv, hnn⟩))
  refine (func_ok hm (core_ok hO (nb * 1000000)) (mkDoer_local P O (nb * 1000000)) hf hlen hn1 hB hM1 hI (fun b hb => (m1_dom b).1 hb) (fun n hnl => (m1_dom n).2 (List.mem_filter.1 hnl).1) (run_holds hrun)).mono ?_
  rintro e w' ⟨v', s', E', a', rfl, hvs, hrel, hlb⟩
  cases hvs
  unfold inlOut at hr
  simp only at hr
  generalize hups : turnsOf mr s (W args) (uniq R []) = ups at hr
  generalize hnews : newsOf s R (uniq (reach s.mem 4 (v.names ++ ups.flatMap (·.2.names))) []) = news at hr
  cases hk : (v.ok (fun n => has R n || has (news.map (·.1)) n) && (news ++ ups).all (fun u => u.2.ok fun n => has R n || has (news.map (·.1)) n)) <;> rw [hk] at hr
  · cases hr
  simp only [cond_true, run_ret, Option.some.injEq] at hr
  subst hr
  simp only at hfr hu hnm hnd ⊢
  rw [Bool.and_eq_true, List.all_eq_true, PV.ok_iff] at hk
  obtain ⟨hk1, hk2⟩ := hk
  have hups_mem : ∀ b k, (b, k) ∈ ups → b ∈ R ∧ b ∈ W args ∧ s.mem b = some k := by
    intro b k h
    rw [← hups, turnsOf_mem, uniq_mem] at h
    obtain ⟨h1, h2, _, h4⟩ := h
    have hb : b ∈ R := h1.resolve_right (by simp)
    obtain ⟨k', hk'⟩ := Option.isSome_iff_exists.1 (hrel.dom b ((m1_dom b).2 hb))
    rw [hk'] at h4
    exact ⟨hb, h2, by rw [hk', h4]; rfl⟩
  have hnews_mem : ∀ b k, (b, k) ∈ news → b ∉ R ∧ s.mem b = some k := by
    intro b k h
    rw [← hnews] at h
    exact newsOf_mem h
  let E2 : Env := { at_ := fun n => if (m n).isSome = true then E.at_ n else E'.at_ n, len := fun n => if (m n).isSome = true then E.len n else E'.len n, cap := fun n => if (m n).isSome = true then E.cap n else E'.cap n }
  have hA : Agree E E2 m := fun b hb => ⟨if_pos hb, if_pos hb, if_pos hb⟩
  have goodR : ∀ n ∈ R, E2.at_ n = E'.at_ n ∧ E2.len n = E'.len n ∧ E2.cap n = E'.cap n := by
    intro n hnR
    have h1 := hrel.from_ n ((m1_dom n).2 hnR)
    have h2 : (m n).isSome = true := by
      obtain ⟨k, hk⟩ := Option.isSome_iff_exists.1 (hcl1 n hnR)
      rw [sub0 hk]; rfl
    have h3 := hA n h2
    exact ⟨h3.1.trans h1.1.symm, h3.2.1.trans h1.2.1.symm, h3.2.2.trans h1.2.2.symm⟩
  have goodN : ∀ n ∈ news.map (·.1), E2.at_ n = E'.at_ n ∧ E2.len n = E'.len n ∧ E2.cap n = E'.cap n := by
    intro n hnN
    have := hfr n hnN
    have h2 : ¬ (m n).isSome = true := by rw [this]; simp
    exact ⟨if_neg h2, if_neg h2, if_neg h2⟩
  have good : ∀ n, (has R n || has (news.map (·.1)) n) = true → E2.at_ n = E'.at_ n ∧ E2.len n = E'.len n ∧ E2.cap n = E'.cap n := by
    intro n h
    rw [Bool.or_eq_true, has_iff, has_iff] at h
    rcases h with h | h
    · exact goodR n h
    · exact goodN n h
  -- what is of the call's end, what is of the caller's
  have kinds : ∀ b k, upds m (news ++ ups) b = some k → (s.mem b = some k ∧ (b ∈ R ∨ b ∈ news.map (·.1)) ∧ (∀ n ∈ k.names, (has R n || has (news.map (·.1)) n) = true)) ∨ (m b = some k ∧ (b ∈ R → k.own = false)) := by
    intro b k h
    rcases upds_cases' _ _ h with h | ⟨h1, h2⟩
    · left
      have hnm' := (Blk.ok_iff _ _).1 (hk2 _ h)
      rcases List.mem_append.1 h with h | h
      · exact ⟨(hnews_mem b k h).2, .inr (List.mem_map.2 ⟨_, h, rfl⟩), hnm'⟩
      · exact ⟨(hups_mem b k h).2.2, .inl (hups_mem b k h).1, hnm'⟩
    · by_cases hb : b ∈ R
      · cases ho : k.own
        · exact .inr ⟨h2, fun _ => rfl⟩
        · left
          obtain ⟨k', hk'⟩ := Option.isSome_iff_exists.1 (hcl1 b hb)
          have e : k' = k := by have := sub0 hk'; rw [h2] at this; exact (Option.some.inj this).symm
          subst e
          have hW : b ∉ W args := by
            intro hW
            refine h1 (List.mem_map.2 ⟨(b, (s.mem b).getD .gone), List.mem_append_right _ ?_, rfl⟩)
            rw [← hups, turnsOf_mem, uniq_mem]
            exact ⟨.inl hb, hW, ⟨k', hk', ho⟩, rfl⟩
          have h3 := hlb b (List.mem_filter.2 ⟨hb, by cases hh : has (W args) b; rfl; exact absurd (has_iff.1 hh) hW⟩)
          rw [(m1_is b k').2 ⟨hb, hk'⟩] at h3
          exact ⟨h3, .inl hb, fun n hnn => by rw [has_iff.2 (hcl2 b hb k' hk' n hnn)]; rfl⟩
      · exact .inr ⟨h2, fun h => absurd h hb⟩
  have envX : ∀ b, (b ∈ R ∨ b ∈ news.map (·.1)) → E2.at_ b = E'.at_ b ∧ E2.len b = E'.len b ∧ E2.cap b = E'.cap b := fun b hb => hb.elim (goodR b) (goodN b)
  have envY : ∀ {b k}, m b = some k → E2.at_ b = E.at_ b := fun h => (hA _ (by rw [h]; rfl)).1
  have locY : ∀ {b k i f}, m b = some k → k.own = true → E.at_ b = some (i, f) → i < w.heap.size := by
    intro b k i f hb ho hi
    obtain ⟨_, _, c, t, hh⟩ := own_at (hM.blk b k hb) ho hi
    exact (Array.getElem?_eq_some_iff.1 hh).1
  have apartXY : ∀ b k i f c k' j g, s.mem b = some k → k.own = true → E'.at_ b = some (i, f) → m c = some k' → k'.own = true → c ∉ R → E.at_ c = some (j, g) → i ≠ j := by
    intro b k i f c k' j g hb ho hi hc ho' hcR hj e
    have hlt := locY hc ho' hj
    obtain ⟨d, kd, gd, d1, d2, d3⟩ := hrel.frame.orig b k i f hb ho hi (by omega)
    exact hM.apart d c kd k' i j gd g (fun e => hcR (e ▸ ((m1_is d kd).1 d1).1)) (m1_m d1) hc d2 ho' d3 hj e
  refine ⟨E2, ?_, hA, ⟨fun b k hb => ?_, fun b k hb n hnn => ?_, fun b c k k' i j f g hne hb hc ho ho' hi hj => ?_⟩, hrel.below, ⟨fun i hi hno => ?_, fun b k i f hb ho hi hlt => ?_⟩⟩
  · rw [PV.emb_congr v fun n hnn => good n (hk1 n hnn)]
  · rcases kinds b k hb with ⟨h1, h2, h3⟩ | ⟨h1, h2⟩
    · exact (hrel.mem.blk b k h1).keep (envX b h2) (fun n hnn => good n (h3 n hnn)) (fun _ _ _ => rfl)
    · by_cases hg : k = .gone
      · subst hg; trivial
      refine (hM.blk b k h1).keep (hA b (by rw [h1]; rfl)) (agree_names hA (hM.ok b k h1)) fun i f hi => ?_
      cases ho : k.own
      · cases k with
        | cells _ _ => cases ho
        | gone => exact absurd rfl hg
        | row own t l =>
          have ho : own = false := ho
          have hh := hM.blk b _ h1
          unfold BlkOk RowOk at hh
          rw [hi] at hh
          exact hrel.below.block i (hh.2.2.2.1 ho)
      · have hbR : b ∉ R := fun h => by rw [h2 h] at ho; cases ho
        refine hrel.frame.keep i (locY h1 ho hi) fun d kd fd d1 d2 d3 => ?_
        exact hM.apart d b kd k i i fd f (fun e => hbR (e ▸ ((m1_is d kd).1 d1).1)) (m1_m d1) h1 d2 ho d3 hi rfl
  · rw [upds_some]
    rcases upds_cases' _ _ hb with h | ⟨h1, h2⟩
    · have := hnm n (List.mem_append_right _ (List.mem_flatMap.2 ⟨_, h, hnn⟩))
      rcases this with h | h
      · rw [h]; rfl
      · rw [Bool.or_eq_true, has_iff]; right; rw [List.map_append]; exact List.mem_append_left _ h
    · rw [hM.ok b k h2 n hnn]; rfl
  · rcases kinds b k hb with ⟨h1, h2, h3⟩ | ⟨h1, h2⟩ <;> rcases kinds c k' hc with ⟨h4, h5, h6⟩ | ⟨h4, h5⟩
    · rw [(envX b h2).1] at hi
      rw [(envX c h5).1] at hj
      exact hrel.mem.apart b c k k' i j f g hne h1 h4 ho ho' hi hj
    · rw [(envX b h2).1] at hi
      rw [envY h4] at hj
      exact apartXY b k i f c k' j g h1 ho hi h4 ho' (fun h => by rw [h5 h] at ho'; cases ho') hj
    · rw [envY h1] at hi
      rw [(envX c h5).1] at hj
      exact Ne.symm (apartXY c k' j g b k i f h4 ho' hj h1 ho (fun h => by rw [h2 h] at ho; cases ho) hi)
    · rw [envY h1] at hi
      rw [envY h4] at hj
      exact hM.apart b c k k' i j f g hne h1 h4 ho ho' hi hj
  · exact hrel.frame.keep i hi fun b k f h1 h2 h3 => hno b k f (m1_m h1) h2 h3
  · rcases kinds b k hb with ⟨h1, h2, h3⟩ | ⟨h1, h2⟩
    · rw [(envX b h2).1] at hi
      obtain ⟨d, kd, gd, d1, d2, d3⟩ := hrel.frame.orig b k i f h1 ho hi hlt
      exact ⟨d, kd, gd, m1_m d1, d2, d3⟩
    · rw [envY h1] at hi
      exact ⟨b, k, f, h1, ho, hi⟩
/-- A call walked in its place, as an entry. -/
def eI {f : FuncId} {fn : Func} (O : Orc) (hO : OrcOk P tid I O) (W : List PV → List Nat) (hm : P.follows .mixedOrders = true) (hf : P.funcs[f]? = some fn) (hn : (fn.name == "runtime.NumGoroutine") = false := by rfl) (hb : fn.body.isNone = false := by rfl) : Ent P tid I := ⟨f, inlM P O fn (fun _ => []) W, inl_ok _ W hm hO hf (enters hf hn hb)⟩
end
end Go.Proofs.YtpbklojdmkpkcaaDoor
