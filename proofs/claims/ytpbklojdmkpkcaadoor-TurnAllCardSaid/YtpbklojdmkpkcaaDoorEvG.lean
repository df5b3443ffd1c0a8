/- The evaluator: what it tells of each operation is so. -/
import Derived.Test.YtpbklojdmkpkcaaDoorEvF
namespace Go.Proofs.YtpbklojdmkpkcaaDoor
open Go Go.RowKit
set_option linter.unusedVariables false
set_option linter.unusedSimpArgs false

@[simp] theorem run_ret {α : Type} (a : α) : (Tr.ret a).run = some a := rfl
@[simp] theorem run_bad {α : Type} (n : Nat) : (Tr.bad n : Tr α).run = none := rfl
@[simp] theorem run_optT {α : Type} (n : Nat) (x : Option α) : (optT n x).run = x := by cases x <;> rfl
@[simp] theorem run_putT (v : PV) : (putT v).run = some { put := v } := rfl
theorem run_need {α : Type} {p : Prop} {t : Tr α} {a : α} (h : (Tr.need p t).run = some a) : p ∧ t.run = some a := by
  simp only [Tr.run] at h
  split at h
  · exact ⟨‹_›, h⟩
  · cases h
theorem run_chk {α : Type} {c : Bool} {t : Tr α} {a : α} (h : (Tr.chk c t).run = some a) : c = true ∧ t.run = some a := by
  simp only [Tr.run] at h
  cases c
  · cases h
  · exact ⟨rfl, h⟩
theorem bind_putT {x : Tr PV} {out : Out} (h : (x.bind putT).run = some out) : ∃ v, x.run = some v ∧ out = { put := v } := by
  rw [Tr.run_bind, Option.bind_eq_some_iff] at h
  obtain ⟨v, h1, h2⟩ := h
  exact ⟨v, h1, (Option.some.inj h2).symm⟩
theorem restr_sub {m : Nat → Option Blk} {R : List Nat} {b : Nat} {k : Blk} (h : restr m R b = some k) : m b = some k := by
  unfold restr at h
  cases hb : has R b <;> rw [hb] at h
  · cases h
  · exact h
theorem pureRun_run {P : Program} {α : Type} {w : World} : ∀ {x : Sem α} {a : α}, pureRun P x = some a → x.run P w = .ok a w
  | .pure a, b, h => by simp only [pureRun, Option.some.injEq] at h; subst h; rfl
  | .program k, b, h => pureRun_run (x := k P) h
  | .mark _ k, b, h => pureRun_run (x := k) h
  | .load _ _ _, _, h => by cases h
  | .store _ _ _ _, _, h => by cases h
  | .new _ _, _, h => by cases h
  | .shape _ _, _, h => by cases h
  | .freeze _ _ _, _, h => by cases h
  | .frozen _ _, _, h => by cases h
  | .getObj _ _, _, h => by cases h
  | .setObj _ _ _, _, h => by cases h
  | .choose _ _, _, h => by cases h
  | .sys _ _, _, h => by cases h
  | .halt _, _, h => by cases h

section
variable {P : Program} {tid : ET → TypeId} {B : Nat} {E : Env} {m : Nat → Option Blk} {w : World}
theorem tyOf_run {t : TypeId} {b : Bool} {n : Nat} (h : tyOf P t = some (b, n)) : (isAgg t).run P w = .ok b w ∧ (sizeOf t).run P w = .ok n w ∧ ∃ i, P.info? t = some i ∧ i.size = n := by
  unfold tyOf at h
  split at h
  · rename_i fs i h1 h2
    simp only [Option.some.injEq, Prod.mk.injEq] at h
    obtain ⟨rfl, rfl⟩ := h
    exact ⟨by simp [isAgg, run_underlying h1], by simp [sizeOf, typeInfo, h2], i, h2, rfl⟩
  · rename_i i h1 h2
    simp only [Option.some.injEq, Prod.mk.injEq] at h
    obtain ⟨rfl, rfl⟩ := h
    exact ⟨by simp [isAgg, run_underlying h1], by simp [sizeOf, typeInfo, h2], i, h2, rfl⟩
  · rename_i d i hn1 hn2 h1 h2
    simp only [Option.some.injEq, Prod.mk.injEq] at h
    obtain ⟨rfl, rfl⟩ := h
    refine ⟨?_, by simp [sizeOf, typeInfo, h2], i, h2, rfl⟩
    simp only [isAgg, Sem.run_bind, run_underlying h1, Result.andThen_ok]
    cases d <;> first | rfl | (exfalso; exact hn1 _ _ h1 h2) | (exfalso; exact hn2 _ _ _ h1 h2)
  · cases h
theorem addr_add (k q j : Nat) : (⟨k, q, none⟩ : Addr).add j = ⟨k, q + j, none⟩ := by
  unfold Addr.add; split <;> simp_all
theorem embs_get (E : Env) (l : List PV) (j : Nat) : (PV.embs E l)[j]? = (l[j]?).map (PV.emb E) := by rw [embs_map, List.getElem?_map]
theorem embs_length (E : Env) (l : List PV) : (PV.embs E l).length = l.length := by rw [embs_map, List.length_map]
/-- A part of cells that are known, read. -/
theorem partPV_load {t : TypeId} {cs : List PV} {p : Nat} {u : PV} {k q0 : Nat} (h : partPV P t cs p = some u) (hc : ∀ j v, (PV.embs E cs)[j]? = some v → w.cell? ⟨k, q0 + j, none⟩ = some v) :
    (loadVar t ⟨k, q0 + p, none⟩).run P w = .ok (u.emb E) w := by
  unfold partPV at h
  split at h
  · rename_i n ht
    cases hb : Nat.ble (p + n) cs.length <;> rw [hb] at h
    · cases h
    · simp only [cond_true, Option.some.injEq] at h
      subst h
      rw [Nat.ble_eq] at hb
      obtain ⟨t1, t2, _⟩ := tyOf_run (w := w) ht
      have hl : (PV.embs E ((cs.drop p).take n)).length = n := by rw [embs_length]; simp; omega
      have := run_loadCells_list (P := P) w ⟨k, q0 + p, none⟩ (PV.embs E ((cs.drop p).take n)) (fun j v hj => by
        rw [addr_add]
        rw [embs_get] at hj
        rw [show q0 + p + j = q0 + (p + j) from by omega]
        refine hc (p + j) v ?_
        rw [embs_get]
        rw [List.getElem?_take] at hj
        split at hj
        · rwa [List.getElem?_drop] at hj
        · cases hj)
      rw [hl] at this
      simp only [loadVar, Sem.run_bind, t1, Result.andThen_ok, if_true, t2, this, Sem.run_pure, PV.emb]
  · rename_i n ht
    obtain ⟨t1, t2, _⟩ := tyOf_run (w := w) ht
    have := hc p (u.emb E) (by rw [embs_get, h]; rfl)
    simp [loadVar, t1, this]
  · cases h
theorem partPV_part {t : TypeId} {cs : List PV} {p : Nat} {u : PV} (h : partPV P t cs p = some u) : (part t (PV.embs E cs).toArray p).run P w = .ok (u.emb E) w := by
  unfold partPV at h
  split at h
  · rename_i n ht
    cases hb : Nat.ble (p + n) cs.length <;> rw [hb] at h
    · cases h
    · simp only [cond_true, Option.some.injEq] at h
      subst h
      obtain ⟨t1, t2, _⟩ := tyOf_run (w := w) ht
      simp only [part, Sem.run_bind, t1, Result.andThen_ok, if_true, t2, Sem.run_pure, PV.emb]
      congr 2
      rw [embs_map, embs_map]
      simp [List.extract_eq_take_drop, List.map_take, List.map_drop]
  · rename_i n ht
    obtain ⟨t1, t2, _⟩ := tyOf_run (w := w) ht
    have : (PV.embs E cs).toArray[p]? = some (u.emb E) := by rw [List.getElem?_toArray, embs_get, h]; rfl
    simp [part, t1, this]
  · cases h
theorem one_emb {v : PV} (h : v.one = true) : (v.emb E).oneCell' = true ∧ (v.emb E).cells = #[v.emb E] := by
  cases v with
  | raw v => cases v <;> first | exact ⟨rfl, rfl⟩ | cases h
  | ptr b sz i off => exact ⟨rfl, rfl⟩
  | sl b sz => simp only [PV.emb]; split <;> exact ⟨rfl, rfl⟩
  | agg l => cases h
  | tup l => cases h
  | clo f c => exact ⟨rfl, rfl⟩
  | isnil b n => exact ⟨rfl, rfl⟩
theorem flat_emb {v : PV} {vs : List PV} (h : flat v = some vs) : (v.emb E).cells = (PV.embs E vs).toArray ∧ ∀ u ∈ PV.embs E vs, u.oneCell' = true := by
  have single : ∀ x : PV, (bif x.one then some [x] else none) = some vs → (x.emb E).cells = (PV.embs E vs).toArray ∧ ∀ u ∈ PV.embs E vs, u.oneCell' = true := by
    intro x h
    cases ho : x.one <;> rw [ho] at h
    · cases h
    · simp only [cond_true, Option.some.injEq] at h
      subst h
      obtain ⟨h1, h2⟩ := one_emb (E := E) ho
      exact ⟨by rw [h2]; rfl, fun u hu => by simp [PV.embs] at hu; subst hu; exact h1⟩
  cases v with
  | agg l =>
    simp only [flat] at h
    cases ho : l.all PV.one <;> rw [ho] at h
    · cases h
    · simp only [cond_true, Option.some.injEq] at h
      subst h
      refine ⟨rfl, fun u hu => ?_⟩
      rw [embs_map] at hu
      obtain ⟨x, hx, rfl⟩ := List.mem_map.1 hu
      exact (one_emb (List.all_eq_true.1 ho x hx)).1
  | _ => exact single _ h
theorem flat_names {v : PV} {vs : List PV} (h : flat v = some vs) : PV.namess vs = v.names := by
  have single : ∀ x : PV, (bif x.one then some [x] else none) = some vs → PV.namess vs = x.names := by
    intro x h
    cases ho : x.one <;> rw [ho] at h
    · cases h
    · simp only [cond_true, Option.some.injEq] at h
      subst h; simp [PV.namess]
  cases v with
  | agg l =>
    simp only [flat] at h
    cases ho : l.all PV.one <;> rw [ho] at h
    · cases h
    · simp only [cond_true, Option.some.injEq] at h
      subst h; rfl
  | _ => exact single _ h
theorem raws_emb (E : Env) (l : List Value) : PV.embs E (raws l) = l := by
  rw [embs_map]; unfold raws; rw [List.map_map]; simp [Function.comp_def, PV.emb]
def intCells : List IntKind → List Int → List Value
  | k :: ks, n :: ns => .int k n :: intCells ks ns
  | _, _ => []
theorem intsOf_cells : ∀ {ks : List IntKind} {cs : List PV} {is : List Int}, intsOf ks cs = some is → cs = raws (intCells ks is)
  | [], [], is, h => by simp only [intsOf, Option.some.injEq] at h; subst h; rfl
  | k :: ks, c :: r, is, h => by
    unfold intsOf at h
    split at h
    · cases ‹_ :: _ = []›
    · rename_i k1 ks1 k' n r1 e1 e2
      cases e1; cases e2
      split at h
      · rename_i hk
        subst hk
        obtain ⟨js, hj, rfl⟩ := Option.map_eq_some_iff.1 h
        rw [intsOf_cells hj]; rfl
      · cases h
    · cases h
  | [], _ :: _, _, h => by simp [intsOf] at h
  | _ :: _, [], _, h => by simp [intsOf] at h
theorem mk_cells (t : ET) (is : List Int) (x : t.α) (h : t.mk is = some x) : intCells t.kinds is = t.cells x := by
  cases t <;> simp only [ET.mk, mk1, mkFx, mkVc, mkBody, mkTether, mkRail, mkEvent, mkKeyed, mkNode, mkCell, mkCmd, mkPair] at h <;> (split at h <;> first | (cases h; rfl) | (cases h))
theorem dec_cells (t : ET) (cs : List PV) (x : t.α) (h : t.dec cs = some x) : cs = raws (t.cells x) := by
  unfold ET.dec at h
  split at h
  · rename_i is hi
    rw [intsOf_cells hi, mk_cells t is x h]
  · cases h
/-- The cell of a flat list. -/
theorem flat_get (et : ET) : ∀ (l : List et.α) (i j : Nat), i < l.length → j < et.size → (l.flatMap et.cells)[i * et.size + j]? = (et.cells (l.getD i et.dflt))[j]?
  | [], i, j, hi, _ => by simp at hi
  | x :: r, 0, j, hi, hj => by
    rw [List.flatMap_cons, Nat.zero_mul, Nat.zero_add, List.getElem?_append_left (by rw [ET.cells_length]; exact hj)]
    rfl
  | x :: r, i + 1, j, hi, hj => by
    rw [List.flatMap_cons, List.getElem?_append_right (by rw [ET.cells_length, Nat.add_mul]; omega), ET.cells_length]
    rw [show (i + 1) * et.size + j - et.size = i * et.size + j from by rw [Nat.add_mul]; omega]
    rw [flat_get et r i j (by simpa using hi) hj]
    rfl
theorem row_cell {b : Nat} {own : Bool} {et : ET} {l : List et.α} {i : Nat} (h : RowOk tid B E w b own et l) (hi : i < l.length) : ∃ k f, E.at_ b = some (k, f) ∧ l.length = E.len b ∧ l.length ≤ E.cap b ∧
    ∀ j v, (et.cells (l.getD i et.dflt))[j]? = some v → w.cell? ⟨k, f + (i * et.size + j), none⟩ = some v := by
  unfold RowOk at h
  split at h
  · subst h; simp at hi
  · rename_i k f hk
    obtain ⟨h1, h2, h3, _⟩ := h
    refine ⟨k, f, hk, h1, h2, fun j v hv => ?_⟩
    have hj : j < et.size := by
      have := (List.getElem?_eq_some_iff.1 hv).1
      rwa [ET.cells_length] at this
    have hlt : i * et.size + j < l.length * et.size := by
      have : (i + 1) * et.size ≤ l.length * et.size := Nat.mul_le_mul_right _ hi
      rw [Nat.add_mul] at this; omega
    rw [h3 _ hlt]
    rw [flat_get et l i j hi hj]
    exact hv
theorem intsK_ok : ∀ {cs : List PV} {k : IntKind} {l : List Int}, intsK cs = some (k, l) → cs = l.map (fun n => PV.int k n)
  | [.raw (.int k n)], k', l, h => by
    simp only [intsK, Option.some.injEq, Prod.mk.injEq] at h
    obtain ⟨rfl, rfl⟩ := h; rfl
  | .raw (.int k n) :: c :: r, k', l, h => by
    have h : (match intsK (c :: r) with
      | some (k', l) => if k = k' then some (k, n :: l) else none
      | none => none) = some (k', l) := by rw [← h]; rfl
    split at h
    · rename_i k2 l2 h2
      split at h
      · rename_i hk
        subst hk
        cases h
        rw [intsK_ok h2]; rfl
      · cases h
    · cases h
  | [], _, _, h => by cases h
theorem arr_get {l : List Int} {k : IntKind} {j : Nat} (h : j < l.length) : (l.map (fun n => PV.int k n))[j]? = some (PV.int k (l.getD j 0)) := by
  rw [List.getElem?_map, List.getElem?_eq_getElem h]
  simp [List.getD, h]
theorem arrPV_run {t : TypeId} {cs : List PV} {j : Nat} {u : PV} (h : (arrPV P t cs j).run = some u) : partPV P t cs j = some u := by
  unfold arrPV at h
  split at h
  · rename_i k l n hk ht
    obtain ⟨hj, h⟩ := run_chk h
    rw [Nat.blt_eq] at hj
    simp only [run_ret, Option.some.injEq] at h
    subst h
    have e := intsK_ok hk
    subst e
    unfold partPV
    rw [ht]
    exact arr_get (by simpa using hj)
  · rwa [run_optT] at h
theorem arrSet_run {cs vs r : List PV} {j n : Nat} (hn : vs.length = n) (hl : j + n ≤ cs.length) (h : (arrSet cs j vs).run = some r) : r = patch cs j vs := by
  unfold arrSet at h
  split at h
  · rename_i k l k' x hk
    split at h
    · rename_i hkk
      subst hkk
      simp only [run_ret, Option.some.injEq] at h
      subst h
      have e := intsK_ok hk
      subst e
      subst hn
      simp only [List.length_map, List.length_cons, List.length_nil] at hl
      apply List.ext_getElem?
      intro q
      unfold patch
      simp only [List.length_map, List.length_cons, List.length_nil]
      by_cases hq : q < l.length
      · rw [List.getElem?_map, List.getElem?_range hq]
        simp only [Option.map_some]
        have hlen : (List.take j (l.map (fun n => PV.int k n)) ++ [PV.raw (Value.int k x)]).length = j + 1 := by simp; omega
        rcases Nat.lt_trichotomy q j with h1 | h1 | h1
        · rw [List.append_assoc, List.getElem?_append_left (by simp; omega), List.getElem?_take, if_pos h1, arr_get hq]
          simp [List.getD, Nat.ne_of_gt h1]
        · subst h1
          rw [List.append_assoc, List.getElem?_append_right (by simp; omega)]
          simp [List.getD, Nat.min_eq_left (Nat.le_of_lt hq), hq]
        · rw [List.getElem?_append_right (by rw [hlen]; omega), hlen, List.getElem?_drop, show j + (0 + 1) + (q - (j + 1)) = q from by omega, arr_get hq]
          simp [List.getD, Nat.ne_of_lt h1]
      · rw [List.getElem?_eq_none (by simp; omega), List.getElem?_eq_none (by simp; omega)]
    · cases h; rfl
  · cases h; rfl
theorem load_run {t : TypeId} {v u : PV} {R : List Nat} (hM : MemRel tid B E m w) (h : (coreLoad P t v (restr m R)).run = some u) : (Instr.loadAt t (v.emb E)).run P w = .ok (u.emb E) w := by
  unfold coreLoad at h
  split at h
  · rename_i b sz i off
    split at h
    · rename_i cs ty hb
      have h : partPV P t cs (i * sz + off) = some u := by
        cases hs : Nat.beq sz 0 <;> rw [hs] at h
        · exact arrPV_run h
        · simpa using h
      obtain ⟨k, hk, _, hw⟩ := hM.blk b _ (restr_sub hb)
      have := partPV_load (w := w) (k := k) (q0 := 0) (E := E) h (fun j v hj => by
        simp only [World.cell?, hw, Nat.zero_add]
        simpa using hj)
      simp only [Instr.loadAt, PV.emb, hk, Option.getD_some, Instr.sureAddr, Sem.run_bind, Sem.run_pure, Result.andThen_ok]
      exact this
    · rename_i own et l hb
      cases hs : Nat.beq sz et.size <;> rw [hs] at h
      · cases h
      · simp only [cond_true] at h
        obtain ⟨hi, h⟩ := run_chk h
        rw [Nat.blt_eq] at hi
        rw [run_optT] at h
        have hsz : sz = et.size := Nat.beq_eq ▸ hs
        obtain ⟨k, f, hk, _, _, hc⟩ := row_cell (hM.blk b _ (restr_sub hb)) hi
        have := partPV_load (w := w) (k := k) (q0 := f + i * sz) (E := E) h (fun j v hj => by
          rw [raws_emb] at hj
          have := hc j v hj
          rwa [← Nat.add_assoc, ← hsz] at this)
        simp only [Instr.loadAt, PV.emb, hk, Option.getD_some, Instr.sureAddr, Sem.run_bind, Sem.run_pure, Result.andThen_ok]
        rwa [Nat.add_assoc] at this
    · cases h
  · cases h
end
end Go.Proofs.YtpbklojdmkpkcaaDoor
