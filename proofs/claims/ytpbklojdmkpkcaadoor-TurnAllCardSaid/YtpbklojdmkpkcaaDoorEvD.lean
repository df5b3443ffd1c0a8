/- The evaluator: a region in whatever order. -/
import Derived.Test.YtpbklojdmkpkcaaDoorEvC
namespace Go.Proofs.YtpbklojdmkpkcaaDoor
open Go Go.RowKit
set_option linter.unusedVariables false
set_option linter.unusedSimpArgs false

/-- Of operation i, each bit stands for one that it waits for. -/
def Bits (A : Array Nat) (i : Nat) (o : Oper) : Prop := ∀ j, (A.getD i 0).testBit j = true → ∃ e ∈ o.after, Region.binds .any e = true ∧ (j = e.on ∨ (e.on < i ∧ (A.getD e.on 0).testBit j = true))
def bitsOf (A : Array Nat) (o : Oper) : Nat := o.after.foldl (fun s e => if Region.binds .any e then s ||| 2 ^ e.on ||| A.getD e.on 0 else s) 0
theorem bits_list (A : Array Nat) (j : Nat) : ∀ (l : List Edge) (s : Nat), (l.foldl (fun s e => if Region.binds .any e then s ||| 2 ^ e.on ||| A.getD e.on 0 else s) s).testBit j = true →
    s.testBit j = true ∨ ∃ e ∈ l, Region.binds .any e = true ∧ (j = e.on ∨ (A.getD e.on 0).testBit j = true)
  | [], s, h => .inl h
  | e :: r, s, h => by
    simp only [List.foldl_cons] at h
    rcases bits_list A j r _ h with h | ⟨e', he', h⟩
    · cases hb : Region.binds .any e
      · rw [hb] at h; exact .inl h
      · rw [hb] at h
        simp only [if_true, Nat.testBit_or, Bool.or_eq_true, Nat.testBit_two_pow] at h
        rcases h with (h | h) | h
        · exact .inl h
        · exact .inr ⟨e, by simp, hb, .inl (by have := h; simp at this; exact this.symm)⟩
        · exact .inr ⟨e, by simp, hb, .inr h⟩
    · exact .inr ⟨e', by simp [he'], h⟩
theorem before_aux : ∀ (L pre : List Oper) (A : Array Nat), A.size = pre.length → (∀ i o, pre[i]? = some o → Bits A i o) →
    ∀ i o, (pre ++ L)[i]? = some o → Bits (L.foldl (fun A o => A.push (bitsOf A o)) A) i o
  | [], pre, A, _, h, i, o, hi => h i o (by simpa using hi)
  | x :: r, pre, A, hs, h, i, o, hi => by
    simp only [List.foldl_cons]
    refine before_aux r (pre ++ [x]) _ (by simp [hs]) ?_ i o (by simpa using hi)
    intro k y hk j hj
    have hlt : ∀ m, m < A.size → (A.push (bitsOf A x)).getD m 0 = A.getD m 0 := by
      intro m hm
      simp only [Array.getD_eq_getD_getElem?, Array.getElem?_push, if_neg (Nat.ne_of_lt hm)]
    rw [List.getElem?_append] at hk
    split at hk
    · rename_i hkl
      rw [hlt k (by omega)] at hj
      obtain ⟨e, he, hb, hor⟩ := h k y hk j hj
      refine ⟨e, he, hb, ?_⟩
      rcases hor with hor | ⟨h1, h2⟩
      · exact .inl hor
      · exact .inr ⟨h1, by rw [hlt _ (by omega)]; exact h2⟩
    · rename_i hkl
      have hk0 : k = pre.length ∧ x = y := by
        have : k - pre.length = 0 := by
          rcases Nat.eq_zero_or_pos (k - pre.length) with h0 | h0
          · exact h0
          · rw [List.getElem?_eq_none (by simp; omega)] at hk; cases hk
        rw [this] at hk
        simp at hk
        exact ⟨by omega, hk⟩
      obtain ⟨rfl, rfl⟩ := hk0
      rw [← hs] at hj ⊢
      have e0 : (A.push (bitsOf A x)).getD A.size 0 = bitsOf A x := by simp [Array.getD_eq_getD_getElem?]
      rw [e0] at hj
      unfold bitsOf at hj
      rw [← Array.foldl_toList] at hj
      rcases bits_list A j _ _ hj with h0 | ⟨e, he, hb, hor⟩
      · simp at h0
      · refine ⟨e, Array.mem_toList_iff.1 he, hb, ?_⟩
        rcases hor with hor | hor
        · exact .inl hor
        · have hlt2 : e.on < A.size := by
            rcases Nat.lt_or_ge e.on A.size with h' | h'
            · exact h'
            · simp [Array.getD_eq_getD_getElem?, Array.getElem?_eq_none h'] at hor
          exact .inr ⟨hlt2, by rw [hlt _ hlt2]; exact hor⟩
theorem before_bits (ops : Array Oper) (i : Nat) (o : Oper) (h : ops[i]? = some o) : Bits (Region.before ops) i o := by
  have e : Region.before ops = ops.toList.foldl (fun A o => A.push (bitsOf A o)) #[] := by
    unfold Region.before bitsOf
    rw [← Array.foldl_toList]
  rw [e]
  exact before_aux ops.toList [] #[] rfl (fun i o hi => by simp at hi) i o (by simpa using h)
theorem ancs_getD (ops : Array Oper) (i : Nat) : (ancs ops).getD i 0 = (Region.before ops).getD i 0 := by
  unfold ancs
  rw [Array.getD_eq_getD_getElem?, List.getD_eq_getElem?_getD, Array.getElem?_toList]
theorem okTrace_get {A : List Nat} : ∀ (r before : List Rec), okTrace A before r = true → ∀ (i j : Nat) (x y : Rec), i < j → before.length ≤ j → (before ++ r)[i]? = some x → (before ++ r)[j]? = some y → clash x y = true →
    (A.getD j 0).testBit i = true
  | [], before, _, i, j, x, y, hij, hj, hx, hy, _ => by rw [List.append_nil, List.getElem?_eq_none hj] at hy; cases hy
  | c :: r, before, h, i, j, x, y, hij, hj, hx, hy, hc => by
    simp only [okTrace, Bool.and_eq_true, List.all_eq_true] at h
    rcases Nat.eq_or_lt_of_le hj with hj | hj
    · have hyc : y = c := by
        rw [← hj, List.getElem?_append_right (Nat.le_refl _)] at hy
        simpa using hy.symm
      have hxb : before[i]? = some x := by rw [List.getElem?_append_left (by omega)] at hx; exact hx
      have := h.1 (x, i) (by
        rw [List.mem_iff_getElem?]
        exact ⟨i, by simp [List.getElem?_zipIdx, hxb]⟩)
      simp only [Bool.or_eq_true, Bool.not_eq_true'] at this
      rw [← hj]
      refine this.resolve_left ?_
      rw [← hyc, hc]; decide
    · exact okTrace_get r (before ++ [c]) h.2 i j x y hij (by simp; omega) (by simpa using hx) (by simpa using hy) hc
theorem backOk_get : ∀ (L : List Oper) (i k : Nat) (o : Oper), backOk i L = true → L[k]? = some o → ∀ e ∈ o.after, Region.binds .any e = true → e.on < i + k
  | [], _, _, _, _, h => by simp at h
  | x :: r, i, 0, o, hb, h => by
    simp only [List.getElem?_cons_zero, Option.some.injEq] at h
    subst h
    intro e he hbi
    simp only [backOk, Bool.and_eq_true, List.all_eq_true] at hb
    have := hb.1 e (Array.mem_toList_iff.2 he)
    rw [hbi, Bool.not_true, Bool.false_or, Nat.blt_eq] at this
    exact this
  | x :: r, i, k + 1, o, hb, h => by
    intro e he hbi
    simp only [backOk, Bool.and_eq_true] at hb
    have := backOk_get r (i + 1) k o hb.2 (by simpa using h) e he hbi
    omega

theorem blt_false (i j : Nat) (h : ¬ i < j) : Nat.blt i j = false := by
  cases hb : Nat.blt i j
  · rfl
  · rw [Nat.blt_eq] at hb; exact absurd hb h
theorem blt_true (i j : Nat) (h : i < j) : Nat.blt i j = true := by rw [Nat.blt_eq]; exact h

/-- What a run in the text's order tells of each of its steps. -/
structure Run (D : Doer) (nt : Nat) (ops : Array Oper) (s0 : St) (S : List Stp) : Prop where
  opl : S.map (·.o) = ops.toList
  at_ : ∀ i x, S[i]? = some x → StepAt D nt ops x.o (apps (fun j => Nat.blt j i) 0 S s0) x.out x.c
section
variable {D : Doer} {nt : Nat} {ops : Array Oper} {s0 : St} {S : List Stp}
theorem StepAt.ok {o : Oper} {s : St} {out : Out} {c : Rec} (h : StepAt D nt ops o s out c) : ∃ R, okOut nt s R o.dst out = true ∧ c = recOf ops o R out := by
  cases h with
  | did g vals hv hr hk hc => exact ⟨_, hk, hc⟩
  | skipped g ho hk hc => exact ⟨_, hk, hc⟩
theorem StepAt.tw {o : Oper} {s : St} {out : Out} {c : Rec} (h : StepAt D nt ops o s out c) : c.tw = o.dst.toList := by obtain ⟨R, _, rfl⟩ := h.ok; rfl
theorem StepAt.nw {o : Oper} {s : St} {out : Out} {c : Rec} (h : StepAt D nt ops o s out c) : c.nw = out.news.map (·.1) := by obtain ⟨R, _, rfl⟩ := h.ok; rfl
theorem StepAt.wr {o : Oper} {s : St} {out : Out} {c : Rec} (h : StepAt D nt ops o s out c) : c.wr = out.ups.map (·.1) := by obtain ⟨R, _, rfl⟩ := h.ok; rfl
theorem StepAt.wr_rd {o : Oper} {s : St} {out : Out} {c : Rec} (h : StepAt D nt ops o s out c) : ∀ b ∈ c.wr, b ∈ c.rd ∧ (s.mem b).isSome = true := by
  obtain ⟨R, hk, rfl⟩ := h.ok
  rw [okOut_iff] at hk
  intro b hb
  obtain ⟨u, hu, rfl⟩ := List.mem_map.1 hb
  obtain ⟨h1, h2, _⟩ := hk.2.2.2 u hu
  exact ⟨h2, h1⟩
theorem StepAt.fresh {o : Oper} {s : St} {out : Out} {c : Rec} (h : StepAt D nt ops o s out c) : ∀ b ∈ c.nw, s.mem b = none := by
  obtain ⟨R, hk, rfl⟩ := h.ok
  rw [okOut_iff] at hk
  intro b hb
  simp only [recOf] at hb
  obtain ⟨u, hu, rfl⟩ := List.mem_map.1 hb
  exact (hk.2.1.1 u hu).1
theorem StepAt.named {o : Oper} {s : St} {out : Out} {c : Rec} (h : StepAt D nt ops o s out c) : ∀ n ∈ c.ment, (s.mem n).isSome = true ∨ n ∈ c.nw := by
  obtain ⟨R, hk, rfl⟩ := h.ok
  rw [okOut_iff] at hk
  intro n hn
  simp only [recOf] at hn ⊢
  rcases List.mem_append.1 hn with hn | hn
  · exact hk.2.2.1 n hn
  · obtain ⟨u, hu, hn⟩ := List.mem_flatMap.1 hn
    rcases List.mem_append.1 hu with hu | hu
    · exact (hk.2.1.1 u hu).2 n hn
    · exact (hk.2.2.2 u hu).2.2 n hn
theorem app_dom {s : St} {d : Option Tmp} {o : Out} {n : Nat} : ((s.app d o).mem n).isSome = true ↔ (s.mem n).isSome = true ∨ n ∈ o.all.map (·.1) := by
  show (upds s.mem (o.news ++ o.ups) n).isSome = true ↔ _
  rw [upds_some, Bool.or_eq_true, has_iff]; rfl
theorem apps_dom {l : Nat → Bool} {n : Nat} : ∀ (L : List Stp) (i : Nat) (s : St), ((apps l i L s).mem n).isSome = true ↔
    (s.mem n).isSome = true ∨ ∃ j x, L[j]? = some x ∧ l (i + j) = true ∧ n ∈ x.out.all.map (·.1)
  | [], i, s => by simp [apps]
  | x :: r, i, s => by
    simp only [apps]
    rw [apps_dom r (i + 1)]
    constructor
    · rintro (h | ⟨j, y, h1, h2, h3⟩)
      · cases hl : l i
        · rw [hl] at h; exact .inl h
        · rw [hl] at h
          rcases app_dom.1 h with h | h
          · exact .inl h
          · exact .inr ⟨0, x, rfl, by simpa using hl, h⟩
      · exact .inr ⟨j + 1, y, h1, by rwa [show i + (j + 1) = i + 1 + j from by omega], h3⟩
    · rintro (h | ⟨j, y, h1, h2, h3⟩)
      · left
        cases hl : l i
        · exact h
        · exact app_dom.2 (.inl h)
      · cases j with
        | zero =>
          simp only [List.getElem?_cons_zero, Option.some.injEq] at h1
          subst h1
          left
          rw [show l i = true from by simpa using h2]
          exact app_dom.2 (.inr h3)
        | succ j => exact .inr ⟨j, y, by simpa using h1, by rwa [show i + (j + 1) = i + 1 + j from by omega] at h2, h3⟩
theorem all_mem {o : Out} {n : Nat} : n ∈ o.all.map (·.1) ↔ n ∈ o.news.map (·.1) ∨ n ∈ o.ups.map (·.1) := by unfold Out.all; rw [List.map_append, List.mem_append]
/-- A name is there ahead of step i: it was there, or a step ahead made it. -/
theorem Run.dom (H : Run D nt ops s0 S) {n : Nat} : ∀ i, ((apps (fun j => Nat.blt j i) 0 S s0).mem n).isSome = true → (s0.mem n).isSome = true ∨ ∃ j x, j < i ∧ S[j]? = some x ∧ n ∈ x.c.nw := by
  intro i
  induction i using Nat.strongRecOn with
  | _ i ih =>
    intro h
    rcases (apps_dom S 0 s0).1 h with h | ⟨j, x, h1, h2, h3⟩
    · exact .inl h
    · simp only [Nat.zero_add, Nat.blt_eq] at h2
      have hx := H.at_ j x h1
      rcases all_mem.1 h3 with h3 | h3
      · exact .inr ⟨j, x, h2, h1, by rw [hx.nw]; exact h3⟩
      · rcases ih j h2 (hx.wr_rd n (by rw [hx.wr]; exact h3)).2 with h4 | ⟨k, y, h5, h6, h7⟩
        · exact .inl h4
        · exact .inr ⟨k, y, by omega, h6, h7⟩
theorem Run.mono (H : Run D nt ops s0 S) {n : Nat} {i k : Nat} (hik : i ≤ k) (h : ((apps (fun j => Nat.blt j i) 0 S s0).mem n).isSome = true) : ((apps (fun j => Nat.blt j k) 0 S s0).mem n).isSome = true := by
  rcases (apps_dom S 0 s0).1 h with h | ⟨j, x, h1, h2, h3⟩
  · exact (apps_dom S 0 s0).2 (.inl h)
  · simp only [Nat.zero_add, Nat.blt_eq] at h2
    exact (apps_dom S 0 s0).2 (.inr ⟨j, x, h1, by simp only [Nat.zero_add]; exact blt_true _ _ (by omega), h3⟩)
theorem Run.made (H : Run D nt ops s0 S) {n i k : Nat} {x : Stp} (hik : i < k) (hx : S[i]? = some x) (hn : n ∈ x.out.all.map (·.1)) : ((apps (fun j => Nat.blt j k) 0 S s0).mem n).isSome = true :=
  (apps_dom S 0 s0).2 (.inr ⟨i, x, hx, by simp only [Nat.zero_add]; exact blt_true _ _ hik, hn⟩)
theorem isSome_none {α : Type} {x : Option α} (h : x = none) (h' : x.isSome = true) : False := by rw [h] at h'; cases h'
theorem Run.get (H : Run D nt ops s0 S) {i : Nat} {o : Oper} (h : ops[i]? = some o) : ∃ x, S[i]? = some x ∧ x.o = o := by
  have : (S.map (·.o))[i]? = some o := by rw [H.opl, Array.getElem?_toList]; exact h
  rw [List.getElem?_map, Option.map_eq_some_iff] at this
  exact this
theorem Run.op (H : Run D nt ops s0 S) {i : Nat} {x : Stp} (h : S[i]? = some x) : ops[i]? = some x.o := by
  have : (S.map (·.o))[i]? = some x.o := by rw [List.getElem?_map, h]; rfl
  rw [H.opl, Array.getElem?_toList] at this
  exact this

/-- Those that have come up: with each all that it waits for. -/
def Shut' (ops : Array Oper) (l : Nat → Bool) : Prop := ∀ i o, ops[i]? = some o → l i = true → ∀ e ∈ o.after, Region.binds .any e = true → l e.on = true
theorem Shut'.anc {l : Nat → Bool} (h : Shut' ops l) {j : Nat} : ∀ i o, ops[i]? = some o → (∀ e ∈ o.after, Region.binds .any e = true → l e.on = true) → ((Region.before ops).getD i 0).testBit j = true → l j = true := by
  intro i
  induction i using Nat.strongRecOn with
  | _ i ih =>
    intro o ho hl hb
    obtain ⟨e, he, hbi, hor⟩ := before_bits ops i o ho j hb
    have hle := hl e he hbi
    rcases hor with rfl | ⟨h1, h2⟩
    · exact hle
    · cases ho' : ops[e.on]? with
      | none =>
        have hlt := (Array.getElem?_eq_some_iff.1 ho).1
        rw [Array.getElem?_eq_none_iff] at ho'
        omega
      | some o' => exact ih e.on h1 o' ho' (h e.on o' ho' hle) h2
/-- Whoever comes up next does what it did in the text's order, and comes to what it came to. -/
theorem next_ok (hD : D.Local) (H : Run D nt ops s0 S) (hT : okTrace (ancs ops) [] (S.map (·.c)) = true) {l : Nat → Bool} (hl : Shut' ops l) {i : Nat} {x : Stp} (hx : S[i]? = some x) (hi : l i = false)
    (hw : ∀ e ∈ x.o.after, Region.binds .any e = true → l e.on = true) :
    StepAt D nt ops x.o (apps l 0 S s0) x.out x.c ∧ apps (fun n => l n || Nat.beq n i) 0 S s0 = (apps l 0 S s0).app x.o.dst x.out := by
  have hxo := H.op hx
  have hst := H.at_ i x hx
  have clash_lt : ∀ j y, S[j]? = some y → j < i → clash y.c x.c = true → l j = true := by
    intro j y hy hj hc
    have := okTrace_get (S.map (·.c)) [] hT j i y.c x.c hj (Nat.zero_le _) (by simp [hy]) (by simp [hx]) hc
    rw [ancs_getD] at this
    exact hl.anc i x.o hxo hw this
  have clash_gt : ∀ j y, S[j]? = some y → i < j → clash x.c y.c = true → l j = false := by
    intro j y hy hj hc
    have := okTrace_get (S.map (·.c)) [] hT i j x.c y.c hj (Nat.zero_le _) (by simp [hx]) (by simp [hy]) hc
    rw [ancs_getD] at this
    cases hlj : l j
    · rfl
    · have := hl.anc j y.o (H.op hy) (hl j y.o (H.op hy) hlj) this
      rw [hi] at this; cases this
  have ne_of : ∀ j y, S[j]? = some y → l j = true → j ≠ i := fun j y hy hlj e => by subst e; rw [hi] at hlj; cases hlj
  -- what both name as theirs
  have apart : ∀ j y, S[j]? = some y → i < j → l j = true → ∀ n, n ∈ x.out.all.map (·.1) → n ∉ y.out.all.map (·.1) := by
    intro j y hy hij hlj n hn hn'
    have hsy := H.at_ j y hy
    have hnc : clash x.c y.c ≠ true := fun hc => by rw [clash_gt j y hy hij hc] at hlj; cases hlj
    rcases all_mem.1 hn' with hn' | hn'
    · exact isSome_none (hsy.fresh n (by rw [hsy.nw]; exact hn')) (H.made hij hx hn)
    · rcases all_mem.1 hn with hn | hn
      · refine hnc ?_
        have : meet x.c.nw y.c.rd = true := meet_iff.2 ⟨n, by rw [hst.nw]; exact hn, (hsy.wr_rd n (by rw [hsy.wr]; exact hn')).1⟩
        unfold clash; simp [this]
      · refine hnc ?_
        have : meet x.c.wr y.c.wr = true := meet_iff.2 ⟨n, by rw [hst.wr]; exact hn, by rw [hsy.wr]; exact hn'⟩
        unfold clash; simp [this]
  constructor
  · refine hst.congr hD ?_ ?_ ?_ ?_
    · intro t ht
      refine apps_tmps S 0 s0 s0 rfl (fun j y hy hty => ?_)
      have hsy := H.at_ j y hy
      simp only [Nat.zero_add]
      rcases Nat.lt_trichotomy j i with hji | rfl | hji
      · rw [blt_true _ _ hji]
        refine clash_lt j y hy hji ?_
        have : meet y.c.tw x.c.tr = true := meet_iff.2 ⟨t, by rw [hsy.tw]; exact hty, ht⟩
        unfold clash; simp [this]
      · rw [hi, blt_false _ _ (by omega)]
      · rw [blt_false _ _ (by omega)]
        refine clash_gt j y hy hji ?_
        have : meet y.c.tw x.c.tr = true := meet_iff.2 ⟨t, by rw [hsy.tw]; exact hty, ht⟩
        unfold clash; simp [this]
    · intro b hb
      refine apps_mem S 0 s0 s0 rfl (fun j y hy hby => ?_)
      have hsy := H.at_ j y hy
      simp only [Nat.zero_add]
      have hor : meet y.c.wr x.c.rd = true ∨ meet y.c.nw x.c.rd = true := by
        rcases all_mem.1 hby with h | h
        · exact .inr (meet_iff.2 ⟨b, by rw [hsy.nw]; exact h, hb⟩)
        · exact .inl (meet_iff.2 ⟨b, by rw [hsy.wr]; exact h, hb⟩)
      rcases Nat.lt_trichotomy j i with hji | rfl | hji
      · rw [blt_true _ _ hji]
        refine clash_lt j y hy hji ?_
        unfold clash; rcases hor with h | h <;> simp [h]
      · rw [hi, blt_false _ _ (by omega)]
      · rw [blt_false _ _ (by omega)]
        refine clash_gt j y hy hji ?_
        unfold clash; rcases hor with h | h <;> simp [h]
    · intro b hb
      have hf := hst.fresh b hb
      cases hm : (apps l 0 S s0).mem b with
      | none => rfl
      | some k =>
        exfalso
        rcases (apps_dom S 0 s0).1 (by rw [hm]; rfl) with h | ⟨j, y, hy, hlj, hn⟩
        · exact isSome_none hf ((apps_dom S 0 s0).2 (.inl h))
        · simp only [Nat.zero_add] at hlj
          rcases Nat.lt_trichotomy j i with hji | rfl | hji
          · exact isSome_none hf (H.made hji hy hn)
          · rw [hi] at hlj; cases hlj
          · exact apart j y hy hji hlj b (all_mem.2 (.inl (by rw [← hst.nw]; exact hb))) hn
    · intro n hn
      rcases hst.named n hn with h | h
      · left
        rcases H.dom i h with h | ⟨j, y, hji, hy, hny⟩
        · exact (apps_dom S 0 s0).2 (.inl h)
        · refine (apps_dom S 0 s0).2 (.inr ⟨j, y, hy, ?_, all_mem.2 (.inl (by rw [← (H.at_ j y hy).nw]; exact hny))⟩)
          simp only [Nat.zero_add]
          refine clash_lt j y hy hji ?_
          have : meet y.c.nw x.c.ment = true := meet_iff.2 ⟨n, hny, hn⟩
          unfold clash; simp [this]
      · exact .inr h
  · have := apps_set (l := l) (k := i) (x := x) S 0 s0 hx (by simpa using hi) (fun j y hij hy hlj => by
      simp only [Nat.zero_add] at hlj
      refine ⟨fun t ht hty => ?_, apart j y hy hij hlj⟩
      have hc : clash x.c y.c = true := by
        have : meet x.c.tw y.c.tw = true := meet_iff.2 ⟨t, by rw [hst.tw]; exact ht, by rw [(H.at_ j y hy).tw]; exact hty⟩
        unfold clash; simp [this]
      rw [clash_gt j y hy hij hc] at hlj; cases hlj)
    simpa using this

variable {P : Program} {Q : Exit → Act → World → Prop} {R : St → Act → World → Prop}
/-- One operation, carried out. -/
def Execs (P : Program) (D : Doer) (nt : Nat) (ops : Array Oper) (Q : Exit → Act → World → Prop) (R : St → Act → World → Prop) : Prop :=
  ∀ i o s out c a w K, ops[i]? = some o → StepAt D nt ops o s out c → R s a w → (∀ a' w', R (s.app o.dst out) a' w' → K a' w') → wpOp P ops Q i K a w
theorem unlisted_set {n i : Nat} {listed : Array Bool} (hs : listed.size = n) (hi : i < n) (h : listed.getD i true = false) :
    ((List.range n).filter fun k => !(listed.setIfInBounds i true).getD k true).length + 1 ≤ ((List.range n).filter fun k => !listed.getD k true).length := by
  have h2 : (List.range n).filter (fun k => !(listed.setIfInBounds i true).getD k true) = ((List.range n).filter fun k => !listed.getD k true).filter fun k => k != i := by
    rw [List.filter_filter]
    refine List.filter_congr (fun k hk => ?_)
    by_cases hki : k = i
    · subst hki
      simp [hs, hi]
    · rw [getD_set_ne true (Ne.symm hki)]
      simp [hki]
  rw [h2]
  have hm : i ∈ (List.range n).filter fun k => !listed.getD k true := List.mem_filter.2 ⟨List.mem_range.2 hi, by rw [h]; rfl⟩
  have : (((List.range n).filter fun k => !listed.getD k true).filter fun k => k != i).length < ((List.range n).filter fun k => !listed.getD k true).length := by
    rw [List.length_filter_lt_length_iff_exists]
    exact ⟨i, hm, by simp⟩
  exact this
theorem order_any (hD : D.Local) (H : Run D nt ops s0 S) (hT : okTrace (ancs ops) [] (S.map (·.c)) = true) (hB : backOk 0 ops.toList = true) (hE : Execs P D nt ops Q R)
    (hQ : ∀ a w, R (apps (fun _ => true) 0 S s0) a w → Q .normal a w) : ∀ (fuel : Nat) (listed : Array Bool) (a : Act) (w : World), listed.size = ops.size → Shut' ops (fun n => listed.getD n false) →
      ((List.range ops.size).filter fun k => !listed.getD k true).length ≤ fuel → R (apps (fun n => listed.getD n false) 0 S s0) a w → wpAny P .any ops Q fuel listed a w := by
  have hlen : S.length = ops.size := by have := congrArg List.length H.opl; simpa using this
  have fin : ∀ (listed : Array Bool) (a : Act) (w : World), listed.size = ops.size → Region.ready .any ops listed = [] → R (apps (fun n => listed.getD n false) 0 S s0) a w → Q .normal a w := by
    intro listed a w hs hr hR
    have all : ∀ i, i < ops.size → listed.getD i false = true := by
      intro i
      induction i using Nat.strongRecOn with
      | _ i ih =>
        intro hi
        cases hl : listed.getD i false
        · exfalso
          have ho : ops[i]? = some ops[i] := Array.getElem?_eq_getElem hi
          have : i ∈ Region.ready .any ops listed := mem_ready.2 ⟨by
              rw [Array.getD_eq_getD_getElem?] at hl ⊢
              have hs' : i < listed.size := by omega
              rw [Array.getElem?_eq_getElem hs'] at hl ⊢
              simpa using hl, _, ho, fun e he hb => by
            have := backOk_get ops.toList 0 i _ hB (by rw [Array.getElem?_toList]; exact ho) e he hb
            exact ih e.on (by omega) (by omega)⟩
          rw [hr] at this; cases this
        · rfl
    refine hQ a w ?_
    rwa [apps_congr S 0 s0 (l := fun n => listed.getD n false) (l' := fun _ => true) (fun j _ hj => all j (by omega))] at hR
  intro fuel
  induction fuel with
  | zero =>
    intro listed a w hs hS hc hR
    have hr : Region.ready .any ops listed = [] := by
      rw [List.eq_nil_iff_forall_not_mem]
      intro i hi
      have h0 := (mem_ready.1 hi).1
      obtain ⟨_, o, ho, _⟩ := mem_ready.1 hi
      have hlt := (Array.getElem?_eq_some_iff.1 ho).1
      have hm : i ∈ (List.range ops.size).filter fun k => !listed.getD k true := List.mem_filter.2 ⟨List.mem_range.2 hlt, by rw [h0]; rfl⟩
      have : 0 < ((List.range ops.size).filter fun k => !listed.getD k true).length := List.length_pos_of_mem hm
      omega
    exact ⟨hr, fin listed a w hs hr hR⟩
  | succ fuel ih =>
    intro listed a w hs hS hc hR
    refine ⟨fun hr => fin listed a w hs hr hR, fun i hi => ?_⟩
    obtain ⟨h0, o, ho, hall⟩ := mem_ready.1 hi
    have hlt := (Array.getElem?_eq_some_iff.1 ho).1
    obtain ⟨x, hx, rfl⟩ := H.get ho
    have hf : listed.getD i false = false := by
      rw [Array.getD_eq_getD_getElem?] at h0 ⊢
      rw [Array.getElem?_eq_getElem (by omega)] at h0 ⊢
      simpa using h0
    obtain ⟨n1, n2⟩ := next_ok hD H hT hS hx hf hall
    refine hE i x.o _ x.out x.c a w _ ho n1 hR (fun a' w' hR' => ?_)
    have el : (fun n => listed.getD n false || Nat.beq n i) = fun n => (listed.setIfInBounds i true).getD n false := by
      funext n
      by_cases hn : n = i
      · subst hn
        rw [nb, Bool.or_true]
        simp [hs, hlt]
      · rw [getD_set_ne false (Ne.symm hn)]
        have : Nat.beq n i = false := by
          cases hb : Nat.beq n i
          · rfl
          · exact absurd (Nat.beq_eq ▸ hb) hn
        rw [this, Bool.or_false]
    rw [← n2, el] at hR'
    refine ih _ a' w' (by simp [hs]) ?_ (by have := unlisted_set hs hlt h0; omega) hR'
    rw [← el]
    intro k y hy hk e he hb
    simp only [Bool.or_eq_true] at hk ⊢
    rcases hk with hk | hk
    · exact .inl (hS k y hy hk e he hb)
    · have : k = i := Nat.beq_eq ▸ hk
      subst this
      rw [ho] at hy
      obtain rfl := Option.some.inj hy
      exact .inl (hall e he hb)
/-- In the text's order. -/
theorem order_text (H : Run D nt ops s0 S) (hE : Execs P D nt ops Q R) (hQ : ∀ a w, R (apps (fun _ => true) 0 S s0) a w → Q .normal a w) : ∀ (n k : Nat) (a : Act) (w : World), n + k = ops.size →
      R (apps (fun j => Nat.blt j k) 0 S s0) a w → wpOps P ops Q ((List.range n).map (k + ·)) a w := by
  have hlen : S.length = ops.size := by have := congrArg List.length H.opl; simpa using this
  intro n
  induction n with
  | zero =>
    intro k a w hk hR
    refine hQ a w ?_
    rwa [apps_congr S 0 s0 (l' := fun _ => true) (fun j _ hj => blt_true _ _ (by omega))] at hR
  | succ n ih =>
    intro k a w hk hR
    rw [List.range_succ_eq_map, List.map_cons, wpOps_cons, List.map_map]
    have ho : ops[k]? = some ops[k] := Array.getElem?_eq_getElem (by omega)
    obtain ⟨x, hx, hxo⟩ := H.get ho
    have hst := H.at_ k x hx
    refine hE (k + 0) x.o _ x.out x.c a w _ (by rw [hxo]; exact ho) hst hR (fun a' w' hR' => ?_)
    have e : ((fun x => k + x) ∘ Nat.succ) = fun x => (k + 1) + x := by funext y; simp only [Function.comp]; omega
    rw [e]
    refine ih (k + 1) a' w' (by omega) ?_
    have := apps_set (l := fun j => Nat.blt j k) (k := k) (x := x) S 0 s0 hx (by rw [Nat.zero_add]; exact blt_false _ _ (by omega)) (fun j y hij hy hlj => by
      simp only [Nat.zero_add, Nat.blt_eq] at hlj; omega)
    rw [← this] at hR'
    have el : (fun n => Nat.blt n k || Nat.beq n (0 + k)) = fun n => Nat.blt n (k + 1) := by
      funext m
      rw [Bool.eq_iff_iff, Bool.or_eq_true, Nat.blt_eq, Nat.blt_eq, Nat.zero_add, Nat.beq_eq]; omega
    rwa [el] at hR'
theorem region_ok (hm : P.follows .mixedOrders = true) (hD : D.Local) {id : Nat} {draw : Bool} {s : St} {Φ : St → Prop} (hE : Execs P D nt ops Q R)
    (hR1 : ∀ s a w n, R s a w → R s a { w with drawn := n }) {a : Act} {w : World} (hR : R s a w) (h : (evRegion D nt ops draw s).holds Φ) (hQ : ∀ s a w, Φ s → R s a w → Q .normal a w) :
    (Code.region id ops draw).wp P Q a w := by
  unfold evRegion at h
  rw [Tr.holds_bind] at h
  obtain ⟨⟨s', l⟩, hr, h⟩ := Tr.holds_noLoop h
  obtain ⟨S, e1, e2, e3, rfl⟩ := evOps_run _ _ _ _ _ _ (fun _ _ h => by cases h) hr
  have H : Run D nt ops s S := ⟨e2, e3⟩
  simp only [List.reverse_nil, List.nil_append] at e1
  subst e1
  cases draw
  · refine wp_region ?_
    have := order_text H hE (fun a w hR => hQ _ a w h hR) ops.size 0 a w (by omega) (by
      rw [apps_none (l := fun j => Nat.blt j 0) _ _ _ (fun j => blt_false _ _ (by omega))]; exact hR)
    simpa using this
  · refine wp_region_any hm ?_
    simp only [Bool.not_true, Bool.false_or] at h
    cases hk : (backOk 0 ops.toList && okTrace (ancs ops) [] (S.map (·.c)))
    · rw [hk] at h; exact h.elim
    · rw [hk] at h
      rw [Bool.and_eq_true] at hk
      refine order_any hD H hk.2 hk.1 hE (fun a w hR => hQ _ a w h hR) ops.size _ a _ (by simp) ?_ ?_ (hR1 _ _ _ _ ?_)
      · intro i o ho hi; simp [Array.getElem?_replicate] at hi; split at hi <;> simp at hi
      · refine Nat.le_trans (List.length_filter_le _ _) (by simp)
      · have e : (fun n => (Array.replicate ops.size false).getD n false) = fun _ => false := by
          funext n; simp [Array.getElem?_replicate]; split <;> rfl
        rw [e, apps_none _ _ _ (fun _ => rfl)]; exact hR
end
end Go.Proofs.YtpbklojdmkpkcaaDoor
