/- The evaluator: rows that are made, rows that grow. -/
import Derived.Test.YtpbklojdmkpkcaaDoorEvH
import Derived.Maps.AppendAt
import Derived.Laws.OwnMore
namespace Go.Proofs.YtpbklojdmkpkcaaDoor
open Go Go.RowKit
set_option linter.unusedVariables false
set_option linter.unusedSimpArgs false

def Env.place (E : Env) (b : Nat) (v : Value) : Env :=
  { at_ := fun n => if n = b then (match v with
      | .slice (some a) _ _ => some (a.block, a.off)
      | _ => none) else E.at_ n
    len := fun n => if n = b then (match v with
      | .slice _ n _ => n
      | _ => 0) else E.len n
    cap := fun n => if n = b then (match v with
      | .slice _ _ c => c
      | _ => 0) else E.cap n }
theorem ET.flat_length (t : ET) : ∀ l : List t.α, (l.flatMap t.cells).length = l.length * t.size
  | [] => by simp
  | x :: r => by rw [List.flatMap_cons, List.length_append, t.cells_length, ET.flat_length t r, List.length_cons, Nat.add_mul]; omega
theorem ET.cells_one (t : ET) (x : t.α) : ∀ u ∈ t.cells x, u.oneCell' = true := by
  intro u hu
  cases t <;> simp [ET.cells, Fx.cells, Vc.cells] at hu <;> (try (rcases hu with hu | hu)) <;> (try subst hu) <;> (try rfl)
  all_goals (repeat (first | (subst hu; rfl) | rcases hu with hu | hu))
theorem ET.flat_one (t : ET) (l : List t.α) : ∀ u ∈ l.flatMap t.cells, u.oneCell' = true := by
  intro u hu
  obtain ⟨x, _, hx⟩ := List.mem_flatMap.1 hu
  exact t.cells_one x u hx
theorem raws_inj {l k : List Value} (h : raws l = raws k) : l = k := by
  have := congrArg (PV.embs ⟨fun _ => none, fun _ => 0, fun _ => 0⟩) h
  rwa [raws_emb, raws_emb] at this
section
variable {P : Program} {tid : ET → TypeId} {B : Nat} {E E' : Env} {m : Nat → Option Blk} {w w' : World}
theorem place_agree {b : Nat} (v : Value) (h : m b = none) : Agree E (E.place b v) m := by
  intro n hn
  have : n ≠ b := fun e => by subst e; rw [h] at hn; cases hn
  simp [Env.place, this]
theorem owns_place {base b sz : Nat} {et : ET} {l : List et.α} {v : Value} (h : w'.ownsRow base (tid et) et.size v l.length (l.flatMap et.cells)) (hB : B ≤ base) :
    RowOk tid B (E.place b v) w' b true et l ∧ (PV.sl b sz).emb (E.place b v) = v ∧ ∀ i f, (E.place b v).at_ b = some (i, f) → base ≤ i ∧ v.ownBlock = some i ∧ f = 0 := by
  rcases h.2 with ⟨rfl, hn⟩ | ⟨g, cap, cur, rfl, hb, hg, hnc, hcm, hcs, htake⟩
  · refine ⟨?_, by simp [PV.emb, Env.place], fun i f hi => by simp [Env.place] at hi⟩
    unfold RowOk
    simp only [Env.place, if_true]
    exact List.eq_nil_of_length_eq_zero hn
  · refine ⟨?_, by simp [PV.emb, Env.place], fun i f hi => by simp [Env.place] at hi; obtain ⟨rfl, rfl⟩ := hi; exact ⟨hb, rfl, rfl⟩⟩
    unfold RowOk
    simp only [Env.place, if_true]
    refine ⟨trivial, hnc, fun j hj => ?_, (fun h => by cases h), fun _ => ⟨Nat.le_trans hB hb, trivial, hcm, cur, hg, hcs⟩⟩
    rw [Nat.zero_add, cell_of_row _ g j cur (tid et) (0, 0) hg, ← htake, List.getElem?_take, if_pos hj]
    simp
theorem rowOk_owns {b sz : Nat} {et : ET} {l : List et.α} (h : RowOk tid B E w b true et l) : w.ownsRow B (tid et) et.size ((PV.sl b sz).emb E) l.length (l.flatMap et.cells) := by
  refine ⟨et.flat_length l, ?_⟩
  unfold RowOk at h
  split at h
  · rename_i hk
    subst h
    left
    simp [PV.emb, hk]
  · rename_i k f hk
    obtain ⟨h1, h2, h3, _, h5⟩ := h
    obtain ⟨h6, rfl, h7, arr, h8, h9⟩ := h5 rfl
    right
    refine ⟨k, E.cap b, arr, by simp [PV.emb, hk, h1], h6, h8, h2, h7, h9, ?_⟩
    apply List.ext_getElem?
    intro j
    by_cases hj : j < l.length * et.size
    · have := h3 j hj
      rw [Nat.zero_add, cell_of_row _ k j arr (tid et) (0, 0) h8] at this
      rw [List.getElem?_take, if_pos hj, ← this]
      simp
    · rw [List.getElem?_take, if_neg hj, List.getElem?_eq_none (by rw [et.flat_length]; omega)]
/-- A new row. -/
theorem MemRel.made (h : MemRel tid B E m w) (hB : B ≤ w.heap.size) {b sz : Nat} {et : ET} {l : List et.α} {v : Value} (hb : m b = none) (hw : w.grownBy w' none) (hown : w'.ownsRow w.heap.size (tid et) et.size v l.length (l.flatMap et.cells)) :
    Agree E (E.place b v) m ∧ MemRel tid B (E.place b v) (upds m [(b, .row true et l)]) w' ∧ Below B w w' ∧ (PV.sl b sz).emb (E.place b v) = v ∧ Fr m E w (upds m [(b, .row true et l)]) (E.place b v) w' := by
  obtain ⟨h1, h2, h3⟩ := owns_place (E := E) (b := b) (sz := sz) hown hB
  refine ⟨place_agree v hb, ?_, ⟨hw.os, hw.tape, hw.output, hw.size, fun i hi => hw.block i (Nat.lt_of_lt_of_le hi hB) (by simp)⟩, h2, Fr.more (place_agree v hb) (fun i hi => hw.block i hi (by simp)) [(b, .row true et l)] fun u hu _ i f hi => by simp at hu; subst hu; exact (h3 i f hi).1⟩
  refine h.more hB (place_agree v hb) (fun i hi => hw.block i hi (by simp)) [(b, .row true et l)] (fun c hc => by simp at hc; subst hc; exact hb) (fun u hu n hn => by simp at hu; subst hu; cases hn) (by simp) (fun u hu => ?_) (fun u hu v hv hne => ?_)
  · simp at hu
    subst hu
    exact ⟨h1, fun _ i f hi => (h3 i f hi).1⟩
  · simp at hu hv
    subst hu; subst hv
    exact absurd rfl hne
theorem lay_cells (off : Nat) : ∀ (us : List Value) (k : Nat) (A : List Value), off + k + us.length ≤ A.length →
    (us.zipIdx k).foldl (fun cs (c, j) => cs.setIfInBounds (off + j) c) A.toArray = (A.take (off + k) ++ us ++ A.drop (off + k + us.length)).toArray := by
  intro us
  induction us with
  | nil => intro k A hA; simp
  | cons u us ih =>
    intro k A hA
    simp only [List.length_cons] at hA
    simp only [List.zipIdx_cons, List.foldl_cons, List.setIfInBounds_toArray]
    rw [ih (k + 1) (A.set (off + k) u) (by simp; omega)]
    congr 1
    have e1 : (A.set (off + k) u).take (off + (k + 1)) = A.take (off + k) ++ [u] := by
      rw [show off + (k + 1) = off + k + 1 from by omega, List.take_succ_eq_append_getElem (by simp; omega), List.take_set_of_le (by omega)]
      simp
    have e2 : (A.set (off + k) u).drop (off + (k + 1) + us.length) = A.drop (off + k + (u :: us).length) := by
      rw [List.drop_set_of_lt (by omega)]; congr 1; simp; omega
    rw [e1, e2]; simp
theorem fill_seq (size : Nat) : ∀ (vs : List Value) (cs : List (List Value)) (k : Nat) (A : List Value), vs.map (·.cells) = cs.map List.toArray → (∀ c ∈ cs, c.length = size) → A.length = (k + vs.length) * size →
    Instr.fill (fun i => some (i * size, size)) A.toArray ((List.range' k vs.length).zip vs) = some (A.take (k * size) ++ cs.flatten).toArray
  | [], cs, k, A, hc, hs, hA => by
    have : cs = [] := by simpa using hc.symm
    subst this
    simp only [List.length_nil, List.range'_zero, List.zip_nil_left, Instr.fill, List.flatten_nil, List.append_nil]
    rw [List.take_of_length_le (by simp at hA; omega)]
  | v :: vs, [], k, A, hc, hs, hA => by simp at hc
  | v :: vs, c :: cs, k, A, hc, hs, hA => by
    simp only [List.map_cons, List.cons.injEq] at hc
    have hcl : c.length = size := hs c (by simp)
    have hA' : A.length = (k + 1 + vs.length) * size := by rw [hA]; congr 1; simp; omega
    have hle : k * size + size ≤ A.length := by rw [hA', Nat.add_mul, Nat.add_mul]; omega
    simp only [List.length_cons, List.range'_succ, List.zip_cons_cons, Instr.fill]
    have hv : v.cells.size = size := by rw [hc.1]; simpa using hcl
    rw [if_neg (by simp [hv]; omega)]
    have e0 : v.cells.zipIdx.foldl (fun cs (c, j) => cs.setIfInBounds (k * size + j) c) A.toArray = (A.take (k * size) ++ c ++ A.drop (k * size + size)).toArray := by
      rw [hc.1, ← Array.foldl_toList, Array.toList_zipIdx]
      have := lay_cells (k * size) c 0 A (by omega)
      simp only [Nat.add_zero] at this
      rw [hcl] at this
      exact this
    rw [e0, fill_seq size vs cs (k + 1) _ hc.2 (fun c hc => hs c (by simp [hc])) (by simp; omega)]
    congr 2
    rw [List.flatten_cons, ← List.append_assoc]
    congr 1
    rw [Nat.add_mul, Nat.one_mul, List.take_append_of_le_length (by simp; omega)]
    exact List.take_of_length_le (by simp; omega)
theorem elems_ok {et : ET} : ∀ {vals : List PV} {l : List et.α}, elems et vals = some l → (vals.map (PV.emb E)).map (·.cells) = (l.map et.cells).map List.toArray
  | [], l, h => by simp only [elems, Option.some.injEq] at h; subst h; rfl
  | v :: r, l, h => by
    simp only [elems] at h
    split at h
    · rename_i cs hcs
      split at h
      · rename_i x l' hx hl
        simp only [Option.some.injEq] at h
        subst h
        have ih := elems_ok hl
        simp only [List.map_cons, List.cons.injEq]
        refine ⟨?_, ih⟩
        rw [(flat_emb (E := E) hcs).1, dec_cells _ _ _ hx, raws_emb]
      · cases h
    · cases h
theorem sliceOf_ok {O : Orc} {t : TypeId} {et : ET} {i : TypeInfo} (hO : ∀ t e, O.et t = some e → tid e = t) (h : sliceOf P O t = some (et, i)) : P.underlying t = some (.slice (tid et)) ∧ P.info? (tid et) = some i ∧ i.size = et.size := by
  unfold sliceOf at h
  split at h
  · rename_i e hu
    split at h
    · rename_i et' i' he hi
      cases hb : Nat.beq i'.size et'.size <;> rw [hb] at h
      · cases h
      · simp only [cond_true, Option.some.injEq, Prod.mk.injEq] at h
        obtain ⟨rfl, rfl⟩ := h
        have := hO _ _ he
        subst this
        exact ⟨hu, hi, Nat.beq_eq ▸ hb⟩
    · cases h
  · cases h
theorem zeroEl_ok {i : TypeInfo} {et : ET} {x : et.α} (h : zeroEl i et = some x) : ∃ z, i.zero = some z ∧ z.cells.toList = et.cells x := by
  unfold zeroEl at h
  split at h
  · rename_i z hz
    exact ⟨z, hz, raws_inj (dec_cells _ _ _ h)⟩
  · cases h
theorem lit_run {O : Orc} {nb len : Nat} {dst : Option Tmp} {t : TypeId} {idx : List Nat} {vals : List PV} {out : Out} (hO : ∀ t e, O.et t = some e → tid e = t) (h : (coreLit P O nb dst t len idx vals).run = some out) :
    ∃ (b : Nat) (et : ET) (l : List et.α) (v : Value) (w' : World), out = { put := .sl b et.size, news := [(b, .row true et l)] } ∧ (Instr.buildSlice t len ((idx.zip (vals.map (PV.emb E))).toArray)).run P w = .ok v w' ∧ w.grownBy w' none ∧ w'.ownsRow w.heap.size (tid et) et.size v l.length (l.flatMap et.cells) := by
  unfold coreLit at h
  split at h
  · rename_i d et i hso
    obtain ⟨s1, s2, s3⟩ := sliceOf_ok hO hso
    split at h
    · rename_i l hl
      cases hb : ((zeroEl i et).isSome && Nat.beq len vals.length && idx == List.range len && Nat.ble (len * et.size) 16777216) <;> rw [hb] at h
      · cases h
      · simp only [cond_true, run_ret, Option.some.injEq] at h
        simp only [Bool.and_eq_true, Nat.ble_eq, beq_iff_eq, Option.isSome_iff_exists] at hb
        obtain ⟨⟨⟨⟨x, hx⟩, hb1⟩, hb2⟩, hb3⟩ := hb
        have hb1 : len = vals.length := Nat.beq_eq ▸ hb1
        obtain ⟨z, hz, _⟩ := zeroEl_ok hx
        have hel := elems_ok (E := E) hl
        have hlen : l.length = len := by
          have := congrArg List.length hel
          simp at this; omega
        have hfill := fill_seq et.size (vals.map (PV.emb E)) (l.map et.cells) 0 ((Array.range (len * et.size)).map (z.cells[· % z.cells.size]!)).toList hel (fun c hc => by
          obtain ⟨y, _, rfl⟩ := List.mem_map.1 hc; exact et.cells_length y) (by simp [hb1])
        rw [Array.toArray_toList] at hfill
        rw [List.length_map, ← hb1, ← List.range_eq_range', ← hb2] at hfill
        simp only [Nat.zero_mul, List.take_zero, List.nil_append] at hfill
        have hflat : (l.map et.cells).flatten = l.flatMap et.cells := by rw [List.flatMap_def]
        rw [hflat] at hfill
        refine ⟨nb + d, et, l, .slice (some ⟨w.heap.size, 0, none⟩) l.length l.length, w.alloc (.cells (l.flatMap et.cells).toArray (tid et)), h.symm, ?_, World.grownBy_alloc w _ none, ?_⟩
        · by_cases h0 : len * et.size = 0
          · have hl0 : l = [] := by
              rcases Nat.mul_eq_zero.1 h0 with h0 | h0
              · exact List.eq_nil_of_length_eq_zero (by omega)
              · have := et.size_pos; omega
            subst hl0
            have hv0 : vals = [] := List.eq_nil_of_length_eq_zero (by simpa [hb1] using hlen.symm)
            subst hv0
            have hlen0 : len = 0 := by simpa using hb1
            subst hlen0
            simp [Instr.buildSlice, run_underlying s1, sizeOf, typeInfo, s2, s3, hb2, Instr.fill, newRow, Array.range_zero']
          · simp only [Instr.buildSlice, Sem.run_bind, run_underlying s1, Result.andThen_ok, sizeOf, typeInfo, run_program, s2, s3, Sem.run_pure, if_neg (show ¬ len * et.size > 2 ^ 24 by omega), if_neg h0, zeroValue, hz, hfill, newRow, hlen]
            simp [s2, s3, hz, hfill, newRow]
        · have := World.ownsRow_lit (base := w.heap.size) (e := tid et) (size := et.size) w (l.flatMap et.cells).toArray l.length (Nat.le_refl _) (by rw [hlen]; have := et.size_pos; have : len * 1 ≤ len * et.size := Nat.mul_le_mul_left _ this; simp only [maxLen]; omega) (by simpa using et.flat_length l)
          simpa using this
    · cases h
  · cases h
theorem split_idx {size j n : Nat} (hs : 0 < size) (hj : j < n * size) : ∃ p r, j = p * size + r ∧ r < size ∧ p < n ∧ j % size = r :=
  ⟨j / size, j % size, by rw [Nat.mul_comm]; exact (Nat.div_add_mod _ _).symm, Nat.mod_lt _ hs, by rw [Nat.div_lt_iff_lt_mul hs]; exact hj, rfl⟩
theorem made_flat {et : ET} {x : et.α} {z : Value} (hz : z.cells.toList = et.cells x) (n c : Nat) (hnc : n ≤ c) : (madeCells z.cells (c * et.size)).toList.take (n * et.size) = (List.replicate n x).flatMap et.cells := by
  have hzs : z.cells.size = et.size := by have := congrArg List.length hz; rw [et.cells_length] at this; simpa using this
  apply List.ext_getElem?
  intro j
  by_cases hj : j < n * et.size
  · obtain ⟨p, r, rfl, hr, hp, hm⟩ := split_idx et.size_pos hj
    have hjc : p * et.size + r < c * et.size := Nat.lt_of_lt_of_le hj (Nat.mul_le_mul_right _ hnc)
    rw [List.getElem?_take, if_pos hj, flat_get et (List.replicate n x) p r (by simpa using hp) hr]
    have e1 : (List.replicate n x).getD p et.dflt = x := by simp [hp]
    rw [e1, ← hz]
    simp only [madeCells, Array.toList_map, List.getElem?_map, Array.toList_range]
    rw [List.getElem?_range hjc]
    simp only [Option.map_some, hzs, hm]
    rw [Array.getElem!_eq_getD, Array.getD_eq_getD_getElem?, Array.getElem?_eq_getElem (by rw [hzs]; exact hr)]
    simp [hr, hzs]
  · rw [List.getElem?_take, if_neg hj, List.getElem?_eq_none (by rw [et.flat_length]; simpa using hj)]
theorem make_run {O : Orc} {nb : Nat} {dst : Option Tmp} {t : TypeId} {v u : PV} {out : Out} (hO : ∀ t e, O.et t = some e → tid e = t) (h : (coreMake P O nb dst t v u).run = some out) :
    ∃ (b : Nat) (et : ET) (l : List et.α) (r : Value) (w' : World), out = { put := .sl b et.size, news := [(b, .row true et l)] } ∧ (Instr.makeSlice t (v.emb E) (u.emb E)).run P w = .ok r w' ∧ w.grownBy w' none ∧ w'.ownsRow w.heap.size (tid et) et.size r l.length (l.flatMap et.cells) := by
  unfold coreMake at h
  split at h
  · rename_i d et i k1 n k2 c hso
    obtain ⟨s1, s2, s3⟩ := sliceOf_ok hO hso
    split at h
    · rename_i x hx
      obtain ⟨hck, h⟩ := run_chk h
      simp only [Bool.and_eq_true, decide_eq_true_iff] at hck
      obtain ⟨⟨⟨h0, hnc⟩, hby⟩, h63⟩ := hck
      simp only [run_ret, Option.some.injEq] at h
      obtain ⟨z, hz, hzc⟩ := zeroEl_ok hx
      have hr := run_make (P := P) w t (tid et) i z s1 s2 hz k1 k2 n c h0 hnc hby (by omega)
      refine ⟨nb + d, et, List.replicate n.toNat x, _, _, h.symm, hr, World.grownBy_alloc w _ none, ?_⟩
      refine ⟨?_, .inr ⟨w.heap.size, c.toNat, madeCells z.cells (c.toNat * i.size), by simp, Nat.le_refl _, heap_alloc_new w _, by simp; omega, by simp only [maxLen]; omega, by rw [size_madeCells, s3], ?_⟩⟩
      · exact et.flat_length _
      · rw [s3]
        have := made_flat hzc n.toNat c.toNat (by omega)
        simpa using this
    · cases h
  · cases h
theorem baseOf_ok {R : List Nat} {et : ET} {v : PV} {ups : List (Nat × Blk)} {l : List et.α} (h : baseOf (restr m R) et v = some (ups, l)) : (v = .raw (.slice none 0 0) ∧ ups = [] ∧ l = []) ∨ ∃ b sz, v = .sl b sz ∧ m b = some (.row true et l) ∧ ups = [(b, .gone)] := by
  unfold baseOf at h
  split at h
  · cases h; exact .inl ⟨rfl, rfl, rfl⟩
  · rename_i b sz
    split at h
    · rename_i t l' hb
      split at h
      · rename_i ht
        subst ht
        simp only [Option.some.injEq, Prod.mk.injEq] at h
        obtain ⟨rfl, rfl⟩ := h
        exact .inr ⟨b, sz, rfl, restr_sub hb, rfl⟩
      · cases h
    · cases h
  · cases h
theorem moreOf_ok {R : List Nat} {et : ET} {v : PV} {l : List et.α} (h : moreOf (restr m R) et v = some l) : ∃ b sz own, v = .sl b sz ∧ m b = some (.row own et l) := by
  unfold moreOf at h
  split at h
  · rename_i b sz
    split at h
    · rename_i own t l' hb
      split at h
      · rename_i ht
        subst ht
        simp only [Option.some.injEq] at h
        subst h
        exact ⟨b, sz, own, rfl, restr_sub hb⟩
      · cases h
    · cases h
  · cases h
theorem append_run {O : Orc} {nb : Nat} {dst : Option Tmp} {ts : Array TypeId} {ty : TypeId} {R : List Nat} {v u : PV} {out : Out} (hO : ∀ t e, O.et t = some e → tid e = t) (hM : MemRel tid B E m w) (hB : B ≤ w.heap.size) (hf : ∀ b ∈ out.news.map (·.1), m b = none)
    (h : (coreAppend P O nb dst ts.toList v u (restr m R)).run = some out) :
    ∃ (r : Value) (E' : Env) (w' : World), (Builtin.append_ ts ty #[v.emb E, u.emb E]).run P w = .ok r w' ∧ r = out.put.emb E' ∧ Agree E E' m ∧ MemRel tid B E' (upds m (out.news ++ out.ups)) w' ∧ Below B w w' ∧ Fr m E w (upds m (out.news ++ out.ups)) E' w' := by
  unfold coreAppend at h
  split at h
  · rename_i d t t' hts
    cases hb : Nat.beq t t' <;> rw [hb] at h
    · cases h
    · have htt : t = t' := Nat.beq_eq ▸ hb
      subst htt
      simp only [cond_true] at h
      split at h
      · rename_i et i hso
        obtain ⟨s1, s2, s3⟩ := sliceOf_ok hO hso
        split at h
        · rename_i ups l k x hbase hmore hx
          cases hbb : Nat.blt 0 i.bytes <;> rw [hbb] at h
          · cases h
          · simp only [cond_true] at h
            have hb0 : 0 < i.bytes := by rw [Nat.blt_eq] at hbb; exact hbb
            obtain ⟨hlen, h⟩ := run_chk h
            rw [Nat.ble_eq] at hlen
            simp only [run_ret, Option.some.injEq] at h
            subst h
            have hts' : ts = #[t, t] := Array.toList_inj.1 (by simpa using hts)
            subst hts'
            obtain ⟨z, hz, hzc⟩ := zeroEl_ok hx
            have hzs : z.cells.size = et.size := by have := congrArg List.length hzc; rw [et.cells_length] at this; simpa using this
            have hnb : m (nb + d) = none := hf (nb + d) (by simp)
            have h63 : l.length + k.length ≤ maxLen := by
              have : (l.length + k.length) * 1 ≤ (l.length + k.length) * i.bytes := Nat.mul_le_mul_left _ hb0
              simp only [maxLen]; omega
            obtain ⟨c, szc, own, rfl, hmc⟩ := moreOf_ok hmore
            have hrow : RowOk tid B E w c own et k := hM.blk c _ hmc
            -- what the second one holds
            have second : (∃ g f n cp, (PV.sl c szc).emb E = .slice (some ⟨g, f, none⟩) n cp ∧ n = k.length ∧ ∀ j u, (k.flatMap et.cells)[j]? = some u → w.cell? ((⟨g, f, none⟩ : Addr).add j) = some u) ∨ ((PV.sl c szc).emb E = .slice none 0 0 ∧ k = []) := by
              unfold RowOk at hrow
              split at hrow
              · rename_i hk
                exact .inr ⟨by simp [PV.emb, hk], hrow⟩
              · rename_i g f hk
                obtain ⟨r1, r2, r3, _⟩ := hrow
                refine .inl ⟨g, f, E.len c, E.cap c, by simp [PV.emb, hk], r1.symm, fun j u hu => ?_⟩
                rw [addr_add]
                have := (List.getElem?_eq_some_iff.1 hu).1
                rw [et.flat_length] at this
                rw [r3 j this]; exact hu
            rcases baseOf_ok hbase with ⟨rfl, rfl, rfl⟩ | ⟨b, szb, rfl, hmb, rfl⟩
            · -- to nothing
              rcases second with ⟨g, f, n, cp, e1, rfl, hcs⟩ | ⟨e1, rfl⟩
              · obtain ⟨v', w', hr, hown, hg, _, hat⟩ := run_append_own_at (P := P) w w.heap.size t ty (tid et) i z et.size i.bytes s1 s2 hz s3 rfl hzs et.size_pos (.slice none 0 0) 0 [] (World.ownsRow_nil _ _ _ _) ⟨g, f, none⟩ k.length cp (k.flatMap et.cells) (et.flat_length k) hcs (et.flat_one k) (by simpa using h63) (by simpa using hlen) (Nat.le_refl _)
                obtain ⟨a1, a2, a3, a4, a5⟩ := hM.made (sz := et.size) (v := v') (l := k) hB hnb hg (by simpa using hown)
                refine ⟨v', E.place (nb + d) v', w', ?_, a4.symm, a1, by simpa using a2, a3, by simpa using a5⟩
                rw [e1]; exact hr
              · obtain ⟨a1, a2, a3, a4, a5⟩ := hM.made (sz := et.size) (v := .slice none 0 0) (et := et) (l := []) (w' := w) hB hnb ⟨rfl, rfl, rfl, Nat.le_refl _, fun _ _ _ => rfl⟩ (World.ownsRow_nil _ _ _ _)
                refine ⟨.slice none 0 0, E.place (nb + d) (.slice none 0 0), w, ?_, a4.symm, a1, by simpa using a2, a3, by simpa using a5⟩
                rw [e1]
                exact run_append_owned_none w w.heap.size t ty (tid et) i et.size s1 s2 (.slice none 0 0) 0 [] (World.ownsRow_nil _ _ _ _)
            · have hown0 : w.ownsRow B (tid et) et.size ((PV.sl b szb).emb E) l.length (l.flatMap et.cells) := rowOk_owns (hM.blk b _ hmb)
              have hflat : (l ++ k).flatMap et.cells = l.flatMap et.cells ++ k.flatMap et.cells := List.flatMap_append
              have fin : ∀ (v' : Value) (w' : World), w'.ownsRow B (tid et) et.size v' (l ++ k).length ((l ++ k).flatMap et.cells) → w.grownBy w' ((PV.sl b szb).emb E).ownBlock → (v'.ownBlock = ((PV.sl b szb).emb E).ownBlock ∨ v'.ownBlock = some w.heap.size) →
                  Agree E (E.place (nb + d) v') m ∧ MemRel tid B (E.place (nb + d) v') (upds m [(nb + d, .row true et (l ++ k)), (b, .gone)]) w' ∧ Below B w w' ∧ (PV.sl (nb + d) et.size).emb (E.place (nb + d) v') = v' ∧ Fr m E w (upds m [(nb + d, .row true et (l ++ k)), (b, .gone)]) (E.place (nb + d) v') w' := by
                intro v' w' hown hg hat
                obtain ⟨p1, p2, p3⟩ := owns_place (E := E) (b := nb + d) (sz := et.size) hown (Nat.le_refl B)
                have blk : ∀ i, ((PV.sl b szb).emb E).ownBlock = some i ↔ ∃ f, E.at_ b = some (i, f) := by
                  intro i
                  simp only [PV.emb]
                  cases hk : E.at_ b with
                  | none => simp [Value.ownBlock]
                  | some q => obtain ⟨q1, q2⟩ := q; simp [Value.ownBlock]
                have keep : ∀ i, i < w.heap.size → (∀ f, E.at_ b ≠ some (i, f)) → w'.heap[i]? = w.heap[i]? := fun i hi hne => hg.block i hi fun e => by
                  obtain ⟨f, hf⟩ := (blk i).1 e.symm
                  exact hne f hf
                have there : ∀ i f, (E.place (nb + d) v').at_ (nb + d) = some (i, f) → E.at_ b = some (i, f) ∨ w.heap.size ≤ i := fun i f hi => by
                  obtain ⟨q1, q2, q3⟩ := p3 i f hi
                  rcases hat with hat | hat
                  · rw [q2] at hat
                    obtain ⟨f', hf'⟩ := (blk i).1 hat.symm
                    have := (own_at (hM.blk b _ hmb) rfl hf').2.1
                    subst this; subst q3
                    exact .inl hf'
                  · rw [q2] at hat
                    have : i = w.heap.size := by simpa using hat
                    exact .inr (by omega)
                refine ⟨place_agree v' hnb, hM.grown hB (place_agree v' hnb) hmb rfl hnb keep p1 rfl there, ⟨hg.os, hg.tape, hg.output, hg.size, fun i hi => hg.block i (Nat.lt_of_lt_of_le hi hB) fun e => ?_⟩, p2, Fr.grown (place_agree v' hnb) hmb rfl keep there⟩
                obtain ⟨f, hf⟩ := (blk i).1 e.symm
                have := (own_at (hM.blk b _ hmb) rfl hf).1
                omega
              rcases second with ⟨g, f, n, cp, e1, rfl, hcs⟩ | ⟨e1, rfl⟩
              · obtain ⟨v', w', hr, hown, hg, _, hat⟩ := run_append_own_at (P := P) w B t ty (tid et) i z et.size i.bytes s1 s2 hz s3 rfl hzs et.size_pos _ l.length _ hown0 ⟨g, f, none⟩ k.length cp (k.flatMap et.cells) (et.flat_length k) hcs (et.flat_one k) h63 hlen hB
                obtain ⟨a1, a2, a3, a4, a5⟩ := fin v' w' (by rw [List.length_append, hflat]; exact hown) hg hat
                refine ⟨v', E.place (nb + d) v', w', ?_, a4.symm, a1, a2, a3, a5⟩
                rw [e1]; exact hr
              · obtain ⟨a1, a2, a3, a4, a5⟩ := fin ((PV.sl b szb).emb E) w (by simpa using hown0) ⟨rfl, rfl, rfl, Nat.le_refl _, fun _ _ _ => rfl⟩ (.inl rfl)
                refine ⟨_, E.place (nb + d) ((PV.sl b szb).emb E), w, ?_, a4.symm, a1, a2, a3, a5⟩
                rw [e1]
                exact run_append_owned_none w B t ty (tid et) i et.size s1 s2 _ l.length _ hown0
        · cases h
      · cases h
  · cases h
end
end Go.Proofs.YtpbklojdmkpkcaaDoor
