/- The evaluator: what is made, what is turned; all operations. -/
import Derived.Test.YtpbklojdmkpkcaaDoorEvG
import Derived.Laws.CopyOwn
namespace Go.Proofs.YtpbklojdmkpkcaaDoor
open Go Go.RowKit
set_option linter.unusedVariables false
set_option linter.unusedSimpArgs false
section
variable {P : Program} {tid : ET → TypeId} {B : Nat} {E E' : Env} {m : Nat → Option Blk} {w w' : World}
theorem own_at {b : Nat} {k : Blk} (h : BlkOk tid B E w b k) (ho : k.own = true) {i f : Nat} (ha : E.at_ b = some (i, f)) : B ≤ i ∧ f = 0 ∧ ∃ c t, w.heap[i]? = some (.cells c t (0, 0)) := by
  cases k with
  | cells cs ty =>
    obtain ⟨k, h1, h2, h3⟩ := h
    rw [ha] at h1; cases h1
    exact ⟨h2, rfl, _, _, h3⟩
  | row own t l =>
    unfold BlkOk RowOk at h
    rw [ha] at h
    obtain ⟨_, _, _, _, h4⟩ := h
    obtain ⟨h5, h6, _, arr, h7, _⟩ := h4 ho
    exact ⟨h5, h6, _, _, h7⟩
  | gone => cases ho
/-- What lies under a name stays, where its block stays. -/
theorem BlkOk.keep {b : Nat} {k : Blk} (h : BlkOk tid B E w b k) (he : E'.at_ b = E.at_ b ∧ E'.len b = E.len b ∧ E'.cap b = E.cap b) (hn : ∀ n ∈ k.names, E'.at_ n = E.at_ n ∧ E'.len n = E.len n ∧ E'.cap n = E.cap n)
    (hw : ∀ i f, E.at_ b = some (i, f) → w'.heap[i]? = w.heap[i]?) : BlkOk tid B E' w' b k := by
  cases k with
  | cells cs ty =>
    obtain ⟨k, h1, h2, h3⟩ := h
    refine ⟨k, by rw [he.1]; exact h1, h2, ?_⟩
    rw [hw k 0 h1, h3, PV.embs_congr cs hn]
  | row own t l =>
    have h : RowOk tid B E w b own t l := h
    show RowOk tid B E' w' b own t l
    unfold RowOk at h ⊢
    rw [he.1, he.2.1, he.2.2]
    split at h
    · exact h
    · rename_i k f hk
      obtain ⟨h1, h2, h3, h4, h5⟩ := h
      refine ⟨h1, h2, fun j hj => ?_, h4, fun ho => ?_⟩
      · rw [World.cell?_of_block (w := w) (by exact hw k f hk)]; exact h3 j hj
      · obtain ⟨h6, h7, h7c, arr, h8, h9⟩ := h5 ho
        exact ⟨h6, h7, h7c, arr, by rw [hw k f hk]; exact h8, h9⟩
  | gone => trivial
theorem agree_names {k : Blk} (hA : Agree E E' m) (h : ∀ n ∈ k.names, (m n).isSome = true) : ∀ n ∈ k.names, E'.at_ n = E.at_ n ∧ E'.len n = E.len n ∧ E'.cap n = E.cap n := fun n hn => hA n (h n hn)
/-- One block more, or more. -/
theorem MemRel.more (h : MemRel tid B E m w) (hB : B ≤ w.heap.size) (hA : Agree E E' m) (hw : ∀ i, i < w.heap.size → w'.heap[i]? = w.heap[i]?) (news : List (Nat × Blk)) (hf : ∀ b ∈ news.map (·.1), m b = none)
    (hn : ∀ u ∈ news, ∀ n ∈ u.2.names, (m n).isSome = true ∨ n ∈ news.map (·.1)) (hnd : (news.map (·.1)).Nodup)
    (hk : ∀ u ∈ news, BlkOk tid B E' w' u.1 u.2 ∧ (u.2.own = true → ∀ i f, E'.at_ u.1 = some (i, f) → w.heap.size ≤ i))
    (hap : ∀ u ∈ news, ∀ v ∈ news, u.1 ≠ v.1 → u.2.own = true → v.2.own = true → ∀ i j f g, E'.at_ u.1 = some (i, f) → E'.at_ v.1 = some (j, g) → i ≠ j) : MemRel tid B E' (upds m news) w' := by
  have old : ∀ b k, m b = some k → BlkOk tid B E' w' b k := by
    intro b k hb
    by_cases hg : k = .gone
    · subst hg; trivial
    refine (h.blk b k hb).keep (hA b (by rw [hb]; rfl)) (agree_names hA (h.ok b k hb)) (fun i f hi => hw i ?_)
    have hbk := h.blk b k hb
    cases ho : k.own
    · cases k with
      | cells _ _ => cases ho
      | gone => exact absurd rfl hg
      | row own t l =>
        have ho : own = false := ho
        unfold BlkOk RowOk at hbk
        rw [hi] at hbk
        exact Nat.lt_of_lt_of_le (hbk.2.2.2.1 ho) hB
    · obtain ⟨_, _, c, t, hh⟩ := own_at hbk ho hi
      exact (Array.getElem?_eq_some_iff.1 hh).1
  have cases_ : ∀ (l : List (Nat × Blk)) (f : Nat → Option Blk) (b : Nat) (k : Blk), (l.map (·.1)).Nodup → upds f l b = some k → (b, k) ∈ l ∨ (b ∉ l.map (·.1) ∧ f b = some k) := by
    intro l
    induction l with
    | nil => intro f b k _ hb; exact .inr ⟨by simp, hb⟩
    | cons x r ih =>
      intro f b k hnd hb
      simp only [List.map_cons, List.nodup_cons] at hnd
      rcases ih _ b k hnd.2 hb with h | ⟨h1, h2⟩
      · exact .inl (by simp [h])
      · by_cases hx : b = x.1
        · subst hx
          rw [upd_same] at h2
          cases h2
          exact .inl (by simp)
        · rw [upd_ne _ _ hx] at h2
          exact .inr ⟨by simp only [List.map_cons, List.mem_cons, not_or]; exact ⟨hx, h1⟩, h2⟩
  have loc : ∀ b k i f, m b = some k → k.own = true → E'.at_ b = some (i, f) → i < w.heap.size := by
    intro b k i f hb ho hi
    rw [(hA b (by rw [hb]; rfl)).1] at hi
    obtain ⟨_, _, c, t, hh⟩ := own_at (h.blk b k hb) ho hi
    exact (Array.getElem?_eq_some_iff.1 hh).1
  have dom : ∀ n, (m n).isSome = true ∨ n ∈ news.map (·.1) → (upds m news n).isSome = true := fun n hn => by rw [upds_some, Bool.or_eq_true, has_iff]; exact hn
  refine ⟨fun b k hb => ?_, fun b k hb n hn' => ?_, fun b c k k' i j f g hne hb hc ho ho' hi hj => ?_⟩
  · rcases cases_ _ _ b k hnd hb with h1 | ⟨_, h1⟩
    · exact (hk _ h1).1
    · exact old b k h1
  · rcases cases_ _ _ b k hnd hb with h1 | ⟨_, h1⟩
    · exact dom n (hn _ h1 n hn')
    · exact dom n (.inl (h.ok b k h1 n hn'))
  · rcases cases_ _ _ b k hnd hb with h1 | ⟨_, h1⟩ <;> rcases cases_ _ _ c k' hnd hc with h2 | ⟨_, h2⟩
    · exact hap _ h1 _ h2 hne ho ho' i j f g hi hj
    · have h3 := (hk _ h1).2 ho i f hi
      have h4 := loc c k' j g h2 ho' hj
      omega
    · have h3 := (hk _ h2).2 ho' j g hj
      have h4 := loc b k i f h1 ho hi
      omega
    · rw [(hA b (by rw [h1]; rfl)).1] at hi
      rw [(hA c (by rw [h2]; rfl)).1] at hj
      exact h.apart b c k k' i j f g hne h1 h2 ho ho' hi hj
theorem upds_cases' {α : Type} : ∀ (l : List (Nat × α)) (f : Nat → Option α) {n : Nat} {v : α}, upds f l n = some v → (n, v) ∈ l ∨ (n ∉ l.map (·.1) ∧ f n = some v)
  | [], f, n, v, h => .inr ⟨by simp, h⟩
  | (k, u) :: r, f, n, v, h => by
    simp only [upds] at h
    rcases upds_cases' r _ h with h | ⟨h1, h2⟩
    · exact .inl (List.mem_cons_of_mem _ h)
    · by_cases hk : n = k
      · subst hk; rw [upd_same] at h2; cases h2; exact .inl List.mem_cons_self
      · rw [upd_ne _ _ hk] at h2; exact .inr ⟨by simp [hk]; simpa using h1, h2⟩
theorem Fr.more (hA : Agree E E' m) (hw : ∀ i, i < w.heap.size → w'.heap[i]? = w.heap[i]?) (news : List (Nat × Blk)) (hl : ∀ u ∈ news, u.2.own = true → ∀ i f, E'.at_ u.1 = some (i, f) → w.heap.size ≤ i) : Fr m E w (upds m news) E' w' := by
  refine ⟨fun i hi _ => hw i hi, fun b k i f h1 h2 h3 hi => ?_⟩
  rcases upds_cases' _ _ h1 with h | ⟨_, h⟩
  · have := hl _ h h2 i f h3; omega
  · exact ⟨b, k, f, h, h2, by rw [← (hA b (by rw [h]; rfl)).1]; exact h3⟩
theorem Fr.turn {b : Nat} {k k' : Blk} {i : Nat} (hb : m b = some k) (ho : k.own = true) (hi : E.at_ b = some (i, 0)) (hw : ∀ j, j ≠ i → w'.heap[j]? = w.heap[j]?) : Fr m E w (upds m [(b, k')]) E w' := by
  refine ⟨fun j hj hn => hw j fun e => hn b k 0 hb ho (by rw [e]; exact hi), fun c kc j f h1 h2 h3 hj => ?_⟩
  rcases upds_cases' _ _ h1 with h | ⟨_, h⟩
  · simp at h
    obtain ⟨rfl, rfl⟩ := h
    exact ⟨c, k, f, hb, ho, h3⟩
  · exact ⟨c, kc, f, h, h2, h3⟩
theorem Fr.grown (hA : Agree E E' m) {b nb : Nat} {k kn : Blk} (hb : m b = some k) (ho : k.own = true) (hw : ∀ i, i < w.heap.size → (∀ f, E.at_ b ≠ some (i, f)) → w'.heap[i]? = w.heap[i]?)
    (hat : ∀ i f, E'.at_ nb = some (i, f) → E.at_ b = some (i, f) ∨ w.heap.size ≤ i) : Fr m E w (upds m [(nb, kn), (b, .gone)]) E' w' := by
  refine ⟨fun j hj hn => hw j hj fun f e => hn b k f hb ho e, fun c kc j f h1 h2 h3 hj => ?_⟩
  rcases upds_cases' _ _ h1 with h | ⟨_, h⟩
  · simp at h
    rcases h with ⟨rfl, rfl⟩ | ⟨rfl, rfl⟩
    · rcases hat j f h3 with h | h
      · exact ⟨b, k, f, hb, ho, h⟩
      · omega
    · cases h2
  · exact ⟨c, kc, f, h, h2, by rw [← (hA c (by rw [h]; rfl)).1]; exact h3⟩
/-- A block turned. -/
theorem MemRel.turn (h : MemRel tid B E m w) {b : Nat} {k k' : Blk} {i : Nat} (hb : m b = some k) (ho : k.own = true) (ho' : k'.own = true) (hi : E.at_ b = some (i, 0)) (hw : ∀ j, j ≠ i → w'.heap[j]? = w.heap[j]?)
    (hk : BlkOk tid B E w' b k') (hn : ∀ n ∈ k'.names, (m n).isSome = true) : MemRel tid B E (upds m [(b, k')]) w' := by
  have hBi : B ≤ i := (own_at (h.blk b k hb) ho hi).1
  have other : ∀ c kc, c ≠ b → m c = some kc → BlkOk tid B E w' c kc := by
    intro c kc hne hc
    by_cases hg : kc = .gone
    · subst hg; trivial
    refine (h.blk c kc hc).keep ⟨rfl, rfl, rfl⟩ (fun _ _ => ⟨rfl, rfl, rfl⟩) (fun j f hj => hw j ?_)
    cases hoc : kc.own
    · cases kc with
      | cells _ _ => cases hoc
      | gone => exact absurd rfl hg
      | row own t l =>
        have hoc : own = false := hoc
        have := h.blk c _ hc
        unfold BlkOk RowOk at this
        rw [hj] at this
        have := this.2.2.2.1 hoc
        omega
    · exact h.apart c b kc k j i f 0 hne hc hb hoc ho hj hi
  have is : ∀ c kc, upds m [(b, k')] c = some kc → (c = b ∧ kc = k') ∨ (c ≠ b ∧ m c = some kc) := by
    intro c kc hc
    simp only [upds] at hc
    by_cases hcb : c = b
    · subst hcb; rw [upd_same] at hc; exact .inl ⟨rfl, (Option.some.inj hc).symm⟩
    · rw [upd_ne _ _ hcb] at hc; exact .inr ⟨hcb, hc⟩
  have dom : ∀ n, (m n).isSome = true → (upds m [(b, k')] n).isSome = true := fun n hn => by rw [upds_some, hn]; rfl
  refine ⟨fun c kc hc => ?_, fun c kc hc n hn' => ?_, fun c d kc kd j l f g hne hc hd hoc hod hj hl => ?_⟩
  · rcases is c kc hc with ⟨rfl, rfl⟩ | ⟨h1, h2⟩
    · exact hk
    · exact other c kc h1 h2
  · rcases is c kc hc with ⟨rfl, rfl⟩ | ⟨h1, h2⟩
    · exact dom n (hn n hn')
    · exact dom n (h.ok c kc h2 n hn')
  · rcases is c kc hc with ⟨rfl, rfl⟩ | ⟨h1, h2⟩ <;> rcases is d kd hd with ⟨rfl, rfl⟩ | ⟨h3, h4⟩
    · exact absurd rfl hne
    · exact h.apart c d k kd j l f g hne hb h4 ho hod hj hl
    · exact h.apart c d kc k j l f g hne h2 hb hoc ho hj hl
    · exact h.apart c d kc kd j l f g hne h2 h4 hoc hod hj hl
/-- A row made longer: its old name is gone. -/
theorem MemRel.grown (h : MemRel tid B E m w) (hB : B ≤ w.heap.size) (hA : Agree E E' m) {b nb : Nat} {k kn : Blk} (hb : m b = some k) (ho : k.own = true) (hnb : m nb = none)
    (hw : ∀ i, i < w.heap.size → (∀ f, E.at_ b ≠ some (i, f)) → w'.heap[i]? = w.heap[i]?) (hk : BlkOk tid B E' w' nb kn) (hn : kn.names = [])
    (hat : ∀ i f, E'.at_ nb = some (i, f) → E.at_ b = some (i, f) ∨ w.heap.size ≤ i) : MemRel tid B E' (upds m [(nb, kn), (b, .gone)]) w' := by
  have hbn : b ≠ nb := fun e => by rw [e, hnb] at hb; cases hb
  have is : ∀ c kc, upds m [(nb, kn), (b, .gone)] c = some kc → (c = b ∧ kc = .gone) ∨ (c = nb ∧ kc = kn) ∨ (c ≠ b ∧ m c = some kc) := by
    intro c kc hc
    simp only [upds] at hc
    by_cases hcb : c = b
    · subst hcb; rw [upd_same] at hc; exact .inl ⟨rfl, (Option.some.inj hc).symm⟩
    · rw [upd_ne _ _ hcb] at hc
      by_cases hcn : c = nb
      · subst hcn; rw [upd_same] at hc; exact .inr (.inl ⟨rfl, (Option.some.inj hc).symm⟩)
      · rw [upd_ne _ _ hcn] at hc; exact .inr (.inr ⟨hcb, hc⟩)
  have dom : ∀ n, (m n).isSome = true → (upds m [(nb, kn), (b, .gone)] n).isSome = true := fun n hn => by rw [upds_some, hn]; rfl
  have loc : ∀ c kc i f, m c = some kc → kc.own = true → E'.at_ c = some (i, f) → E.at_ c = some (i, f) ∧ i < w.heap.size := by
    intro c kc i f hc hoc hi
    rw [(hA c (by rw [hc]; rfl)).1] at hi
    obtain ⟨_, _, cu, t, hh⟩ := own_at (h.blk c kc hc) hoc hi
    exact ⟨hi, (Array.getElem?_eq_some_iff.1 hh).1⟩
  have other : ∀ c kc, c ≠ b → m c = some kc → BlkOk tid B E' w' c kc := by
    intro c kc hne hc
    by_cases hg : kc = .gone
    · subst hg; trivial
    refine (h.blk c kc hc).keep (hA c (by rw [hc]; rfl)) (agree_names hA (h.ok c kc hc)) (fun i f hi => ?_)
    cases hoc : kc.own
    · cases kc with
      | cells _ _ => cases hoc
      | gone => exact absurd rfl hg
      | row own t l =>
        have hoc : own = false := hoc
        have hh := h.blk c _ hc
        unfold BlkOk RowOk at hh
        rw [hi] at hh
        have hlt := hh.2.2.2.1 hoc
        refine hw i (Nat.lt_of_lt_of_le hlt hB) fun g hg => ?_
        have := (own_at (h.blk b k hb) ho hg).1
        omega
    · obtain ⟨_, _, cu, t, hh⟩ := own_at (h.blk c kc hc) hoc hi
      exact hw i (Array.getElem?_eq_some_iff.1 hh).1 fun g hg => h.apart c b kc k i i f g hne hc hb hoc ho hi hg rfl
  refine ⟨fun c kc hc => ?_, fun c kc hc n hn' => ?_, fun c d kc kd i j f g hne hc hd hoc hod hi hj => ?_⟩
  · rcases is c kc hc with ⟨rfl, rfl⟩ | ⟨rfl, rfl⟩ | ⟨h1, h2⟩
    · trivial
    · exact hk
    · exact other c kc h1 h2
  · rcases is c kc hc with ⟨rfl, rfl⟩ | ⟨rfl, rfl⟩ | ⟨h1, h2⟩
    · cases hn'
    · rw [hn] at hn'; cases hn'
    · exact dom n (h.ok c kc h2 n hn')
  · rcases is c kc hc with ⟨rfl, rfl⟩ | ⟨rfl, rfl⟩ | ⟨h1, h2⟩ <;> rcases is d kd hd with ⟨rfl, rfl⟩ | ⟨rfl, rfl⟩ | ⟨h3, h4⟩
    all_goals first | (cases hoc; done) | (cases hod; done) | (exact absurd rfl hne) | skip
    · obtain ⟨hj', hlt⟩ := loc d kd j g h4 hod hj
      rcases hat i f hi with hi' | hi'
      · exact h.apart b d k kd i j f g (Ne.symm h3) hb h4 ho hod hi' hj'
      · omega
    · obtain ⟨hi', hlt⟩ := loc c kc i f h2 hoc hi
      rcases hat j g hj with hj' | hj'
      · exact h.apart c b kc k i j f g h1 h2 hb hoc ho hi' hj'
      · omega
    · exact h.apart c d kc kd i j f g hne h2 h4 hoc hod (loc c kc i f h2 hoc hi).1 (loc d kd j g h4 hod hj).1
theorem patch_embs (cs vs : List PV) (p : Nat) : PV.embs E (patch cs p vs) = (PV.embs E cs).take p ++ PV.embs E vs ++ (PV.embs E cs).drop (p + vs.length) := by
  unfold patch; rw [embs_map, embs_map, embs_map]; simp [List.map_take, List.map_drop]
theorem namess_patch {cs vs : List PV} {p n : Nat} (h : n ∈ PV.namess (patch cs p vs)) : n ∈ PV.namess cs ∨ n ∈ PV.namess vs := by
  unfold patch at h
  rw [namess_mem] at h
  obtain ⟨v, hv, hn⟩ := h
  rw [List.mem_append, List.mem_append] at hv
  rcases hv with (hv | hv) | hv
  · exact .inl ((namess_mem _).2 ⟨v, List.mem_of_mem_take hv, hn⟩)
  · exact .inr ((namess_mem _).2 ⟨v, hv, hn⟩)
  · exact .inl ((namess_mem _).2 ⟨v, List.mem_of_mem_drop hv, hn⟩)
theorem seg_get (L V : List Value) (q n j : Nat) (hV : V.length = n) (hq : q + n ≤ L.length) : (L.take q ++ V ++ L.drop (q + n))[j]? = if j < q then L[j]? else if j < q + n then V[j - q]? else L[j]? := by
  have hlt : (L.take q).length = q := by simp; omega
  split
  · rw [List.append_assoc, List.getElem?_append_left (by omega), List.getElem?_take, if_pos ‹_›]
  · split
    · rw [List.append_assoc, List.getElem?_append_right (by omega), hlt, List.getElem?_append_left (by omega)]
    · rw [List.getElem?_append_right (by simp; omega), List.getElem?_drop]
      congr 1
      simp; omega
theorem storeVar_run {t : TypeId} {b : Bool} {n : Nat} {u : PV} {vs : List PV} {i q : Nat} {cur : Array Value} {ty : TypeId} (ht : tyOf P t = some (b, n)) (hf : flat u = some vs) (hl : vs.length = n) (hw : w.heap[i]? = some (.cells cur ty (0, 0))) (hq : q + n ≤ cur.size) :
    (storeVar t ⟨i, q, none⟩ (u.emb E)).run P w = .ok () (w.setRow i (cur.toList.take q ++ PV.embs E vs ++ cur.toList.drop (q + n)).toArray) := by
  obtain ⟨f1, f2⟩ := flat_emb (E := E) hf
  obtain ⟨_, t2, _⟩ := tyOf_run (w := w) ht
  have hs : (u.emb E).cells.size = n := by rw [f1]; simp [embs_length, hl]
  have := run_storeCells_at (P := P) i q ty (PV.embs E vs) 0 cur w hw (by rw [embs_length, hl]; omega) f2
  simp only [storeVar, Sem.run_bind, t2, Result.andThen_ok, hs, ne_eq, not_true, if_false, Sem.run_pure]
  rw [f1]
  simpa [embs_length, hl] using this
theorem storeAt_run {t : TypeId} {b sz i off k : Nat} {u : PV} {r : Result Unit} (hk : E.at_ b = some (k, 0)) (h : (storeVar t ⟨k, i * sz + off, none⟩ (u.emb E)).run P w = r) :
    (Instr.storeAt t (PV.emb E (.ptr b sz i off)) (u.emb E)).run P w = r := by
  simp only [Instr.storeAt, PV.emb, hk, Option.getD_some, Instr.sureAddr, Sem.run_bind, Sem.run_pure, Result.andThen_ok, Nat.zero_add]
  exact h
theorem store_run {t : TypeId} {v u : PV} {R : List Nat} {out : Out} (hM : MemRel tid B E m w) (hu : ∀ n ∈ u.names, (m n).isSome = true) (h : (coreStore P t v u (restr m R)).run = some out) :
    ∃ w', (Instr.storeAt t (v.emb E) (u.emb E)).run P w = .ok () w' ∧ MemRel tid B E (upds m out.ups) w' ∧ Below B w w' ∧ Fr m E w (upds m out.ups) E w' ∧ out.news = [] ∧ out.put = .raw undef := by
  unfold coreStore at h
  split at h
  · rename_i b sz i off vs _ n hf ht
    cases hl : Nat.beq vs.length n <;> rw [hl] at h
    · cases h
    · have hl : vs.length = n := Nat.beq_eq ▸ hl
      simp only [cond_true] at h
      split at h
      · rename_i cs ty hb
        have h : i * sz + off + n ≤ cs.length ∧ out = { put := .raw undef, ups := [(b, .cells (patch cs (i * sz + off) vs) ty)] } := by
          cases hs : Nat.beq sz 0 <;> rw [hs] at h
          · obtain ⟨hq, h⟩ := run_chk h
            rw [Nat.ble_eq] at hq
            rw [Tr.run_bind, Option.bind_eq_some_iff] at h
            obtain ⟨r, h1, h2⟩ := h
            cases h2
            exact ⟨hq, by rw [arrSet_run hl hq h1]⟩
          · simp only [cond_true] at h
            cases hq : Nat.ble (i * sz + off + n) cs.length <;> rw [hq] at h
            · cases h
            · rw [Nat.ble_eq] at hq
              simp only [cond_true, run_ret, Option.some.injEq] at h
              exact ⟨hq, h.symm⟩
        obtain ⟨hq, h⟩ := h
        · subst h
          have hb := restr_sub hb
          obtain ⟨k, hk, hBk, hw⟩ := hM.blk b _ hb
          have hr := storeVar_run (E := E) ht hf hl hw (q := i * sz + off) (by simp [embs_length]; omega)
          refine ⟨_, storeAt_run hk hr, ?_, below_setRow (.refl _ _) hBk _, Fr.turn hb rfl hk (fun j hj => setRow_other _ _ _ _ hj), rfl, rfl⟩
          · refine hM.turn hb rfl rfl hk (fun j hj => setRow_other _ _ _ _ hj) ⟨k, hk, hBk, ?_⟩ (fun x hx => ?_)
            · rw [setRow_heap _ _ _ _ _ _ hw]
              rw [patch_embs, hl]
            · rcases namess_patch hx with hx | hx
              · exact hM.ok b _ hb x hx
              · exact hu x (by rw [flat_names hf] at hx; exact hx)
      · rename_i et l hb
        cases hq : (Nat.beq sz et.size && Nat.ble (off + n) et.size) <;> rw [hq] at h
        · cases h
        · rw [Bool.and_eq_true, Nat.ble_eq] at hq
          have hsz : sz = et.size := Nat.beq_eq ▸ hq.1
          simp only [cond_true] at h
          obtain ⟨hi, h⟩ := run_chk h
          rw [Nat.blt_eq] at hi
          split at h
          · rename_i x hx
            simp only [run_ret, Option.some.injEq] at h
            subst h
            have hb := restr_sub hb
            have hrow := hM.blk b _ hb
            obtain ⟨k, f, hk, h1, h2, hc⟩ := row_cell hrow hi
            unfold BlkOk RowOk at hrow
            rw [hk] at hrow
            obtain ⟨_, _, h3, _, h5⟩ := hrow
            obtain ⟨h6, rfl, h6c, arr, h7, h8⟩ := h5 rfl
            have hd := dec_cells _ _ _ hx
            have hmul : (i + 1) * et.size ≤ l.length * et.size := Nat.mul_le_mul_right _ hi
            have hmul2 : l.length * et.size ≤ arr.size := by rw [h8]; exact Nat.mul_le_mul_right _ h2
            rw [Nat.add_mul, Nat.one_mul] at hmul
            have hr := storeVar_run (E := E) ht hf hl h7 (q := i * sz + off) (by rw [hsz]; omega)
            refine ⟨_, storeAt_run hk hr, ?_, below_setRow (.refl _ _) h6 _, Fr.turn hb rfl hk (fun j hj => setRow_other _ _ _ _ hj), rfl, rfl⟩
            · refine hM.turn hb rfl rfl hk (fun j hj => setRow_other _ _ _ _ hj) ?_ (fun x hx => by simp [Blk.names] at hx)
              show RowOk tid B E _ b true et (l.set i x)
              unfold RowOk
              rw [hk]
              refine ⟨by simpa using h1, by simpa using h2, fun j hj => ?_, (fun hh => by cases hh), fun _ => ⟨h6, rfl, h6c, _, setRow_heap _ _ _ _ _ _ h7, ?_⟩⟩
              · have hce : et.cells x = (et.cells (l.getD i et.dflt)).take off ++ PV.embs E vs ++ (et.cells (l.getD i et.dflt)).drop (off + n) := by
                  have := congrArg (PV.embs E) hd
                  rw [raws_emb, patch_embs, raws_emb, hl] at this
                  exact this.symm
                have hVn : (PV.embs E vs).length = n := by rw [embs_length, hl]
                rw [Nat.zero_add, cell_setRow_same _ _ _ _ _ _ _ h7]
                have hpos := et.size_pos
                obtain ⟨p, r, rfl, hr', hp⟩ : ∃ p r, j = p * et.size + r ∧ r < et.size ∧ p < l.length := by
                  refine ⟨j / et.size, j % et.size, by rw [Nat.mul_comm]; exact (Nat.div_add_mod _ _).symm, Nat.mod_lt _ hpos, ?_⟩
                  rw [Nat.div_lt_iff_lt_mul hpos]
                  simpa using hj
                rw [flat_get et (l.set i x) p r (by simpa using hp) hr']
                rw [List.getElem?_toArray, seg_get _ _ _ _ _ hVn (by rw [hsz, Array.length_toList]; omega)]
                have harr : arr.toList[p * et.size + r]? = (et.cells (l.getD p et.dflt))[r]? := by
                  have hlt : p * et.size + r < l.length * et.size := by
                    have : (p + 1) * et.size ≤ l.length * et.size := Nat.mul_le_mul_right _ hp
                    rw [Nat.add_mul] at this; omega
                  rw [← flat_get et l p r hp hr', ← h3 _ hlt, Nat.zero_add]
                  simp [World.cell?, h7]
                by_cases hpi : p = i
                · subst hpi
                  have e2 : (l.set p x).getD p et.dflt = x := by simp [List.getD, hp]
                  rw [e2, hce, seg_get _ _ _ _ _ hVn (by rw [ET.cells_length]; omega), harr, hsz]
                  by_cases c1 : r < off
                  · rw [if_pos (by omega), if_pos c1]
                  · rw [if_neg (by omega), if_neg c1]
                    by_cases c2 : r < off + n
                    · rw [if_pos (by omega), if_pos c2]; congr 1; omega
                    · rw [if_neg (by omega), if_neg c2]
                · have e2 : (l.set i x).getD p et.dflt = l.getD p et.dflt := by simp [List.getD, Ne.symm hpi]
                  rw [e2, harr, hsz]
                  rcases Nat.lt_or_gt_of_ne hpi with hlt | hgt
                  · have : (p + 1) * et.size ≤ i * et.size := Nat.mul_le_mul_right _ hlt
                    rw [Nat.add_mul] at this
                    rw [if_pos (by omega)]
                  · have : (i + 1) * et.size ≤ p * et.size := Nat.mul_le_mul_right _ hgt
                    rw [Nat.add_mul] at this
                    rw [if_neg (by omega), if_neg (by omega)]
              · have : i * sz = i * et.size := by rw [hsz]
                simp [embs_length]; omega
          · cases h
      · cases h
  · cases h
end
end Go.Proofs.YtpbklojdmkpkcaaDoor
