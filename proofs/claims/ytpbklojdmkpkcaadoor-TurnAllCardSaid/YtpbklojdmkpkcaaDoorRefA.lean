/- The reference's small functions: differences of two words; turned about; what may be. -/
import Derived.Test.YtpbklojdmkpkcaaDoorFields
namespace Go.Proofs.YtpbklojdmkpkcaaDoor
open Go.RowKit
set_option linter.unusedSimpArgs false
set_option linter.unusedVariables false
theorem below_is (ah al bh b_l : Int) [h1 : U ah] [h2 : U al] [h3 : U bh] [h4 : U b_l] : below (val2 ah al - val2 bh b_l) = decide (ah < bh ∨ ah = bh ∧ al < b_l) := by
  have := h1.h; have := h2.h; have := h3.h; have := h4.h; unfold below val2; rw [decide_eq_decide]; omega
set_option maxHeartbeats 800000 in
theorem r1_Less (ah al bh b_l : Int) [U ah] [U al] [U bh] [U b_l] : Gives 38 #[.agg #[.int .u64 ah, .int .u64 al], .agg #[.int .u64 bh, .int .u64 b_l]] (.bool (below (val2 ah al - val2 bh b_l))) := by
  intro w
  rw [below_is]
  rcases Int.lt_trichotomy ah bh with h | rfl | h
  · rw [show decide (ah < bh ∨ ah = bh ∧ al < b_l) = true from by simp [h]]
    go_enter Tryd.func38, Tryd.ntmps38
    go_wp2_with fail
    (simp (maxDischargeDepth := 8) [bodyPost, results, Tryd.results38, go_sem, *]; try (repeat (first | (with_reducible exact Below.refl _ _) | (with_reducible assumption) | (with_reducible refine Below.alloc ?_ (by first | (with_reducible exact Nat.le_refl _) | omega | (simp <;> omega)) _) | (with_reducible refine Below.setCell ?_ (by first | (with_reducible exact Nat.le_refl _) | omega | (simp <;> omega)) _) | (with_reducible refine Below.drew ?_) | (with_reducible refine bel_step (by assumption) ?_ (by first | (with_reducible exact Nat.le_refl _) | omega | (simp <;> omega))))))
  · rw [show decide (ah < ah ∨ ah = ah ∧ al < b_l) = decide (al < b_l) from by simp]
    have h0 : ¬ ah < ah := Int.lt_irrefl _
    go_enter Tryd.func38, Tryd.ntmps38
    go_wp2_with fail
    all_goals (simp (maxDischargeDepth := 8) [bodyPost, results, Tryd.results38, go_sem, *]; try (repeat (first | (with_reducible exact Below.refl _ _) | (with_reducible assumption) | (with_reducible refine Below.alloc ?_ (by first | (with_reducible exact Nat.le_refl _) | omega | (simp <;> omega)) _) | (with_reducible refine Below.setCell ?_ (by first | (with_reducible exact Nat.le_refl _) | omega | (simp <;> omega)) _) | (with_reducible refine Below.drew ?_) | (with_reducible refine bel_step (by assumption) ?_ (by first | (with_reducible exact Nat.le_refl _) | omega | (simp <;> omega))))))
  · rw [show decide (ah < bh ∨ ah = bh ∧ al < b_l) = false from by simp; omega]
    have h0 : ¬ ah < bh := by omega
    have h1 : (ah == bh) = false := by simp; omega
    go_enter Tryd.func38, Tryd.ntmps38
    go_wp2_with fail
    all_goals (simp (maxDischargeDepth := 8) [bodyPost, results, Tryd.results38, go_sem, *]; try (repeat (first | (with_reducible exact Below.refl _ _) | (with_reducible assumption) | (with_reducible refine Below.alloc ?_ (by first | (with_reducible exact Nat.le_refl _) | omega | (simp <;> omega)) _) | (with_reducible refine Below.setCell ?_ (by first | (with_reducible exact Nat.le_refl _) | omega | (simp <;> omega)) _) | (with_reducible refine Below.drew ?_) | (with_reducible refine bel_step (by assumption) ?_ (by first | (with_reducible exact Nat.le_refl _) | omega | (simp <;> omega))))))
abbrev sumv (n : Int) (c : Bool) : Value := .agg #[.int .u64 (hi n), .int .u64 (lo n), .bool c]
theorem sub2_1 (ah al bh b_l : Int) [h1 : U ah] [h2 : U al] [h3 : U bh] [h4 : U b_l] (h : al < b_l) : IntKind.u64.wrap (IntKind.u64.wrap (ah - bh) - 1) = hi (mod2 (val2 ah al - val2 bh b_l)) := by
  have := h1.h; have := h2.h; have := h3.h; have := h4.h; rw [IntKind.wrap_u64, IntKind.wrap_u64]; unfold hi mod2 val2; omega
theorem sub2_0 (ah al bh b_l : Int) [h1 : U ah] [h2 : U al] [h3 : U bh] [h4 : U b_l] (h : ¬ al < b_l) : IntKind.u64.wrap (ah - bh) = hi (mod2 (val2 ah al - val2 bh b_l)) := by
  have := h1.h; have := h2.h; have := h3.h; have := h4.h; rw [IntKind.wrap_u64]; unfold hi mod2 val2; omega
theorem sub2_lo (ah al bh b_l : Int) : IntKind.u64.wrap (al - b_l) = lo (mod2 (val2 ah al - val2 bh b_l)) := by rw [IntKind.wrap_u64]; unfold lo mod2 val2; omega
attribute [local go_sem] wrapU fld_Sum_0 fld_Sum_1 fld_Got_0 fld_Got_1 fld_Way_0 fld_Way_1 fld_Divided_0 fld_Divided_1 fld_Divided_2 fld_Vec_0 fld_Vec_1 fld_Fix_0 fld_Fix_1 fld_Two_0 fld_Two_1 fld_Four_0 fld_Four_1
set_option maxHeartbeats 1600000 in
theorem r1_SubTwo (ah al bh b_l : Int) [U ah] [U al] [U bh] [U b_l] : Gives 65 #[.agg #[.int .u64 ah, .int .u64 al], .agg #[.int .u64 bh, .int .u64 b_l]] (sumv (mod2 (val2 ah al - val2 bh b_l)) (below (val2 ah al - val2 bh b_l))) := by
  intro w
  unfold sumv
  rw [← sub2_lo ah al bh b_l]
  by_cases h : al < b_l
  · rw [← sub2_1 ah al bh b_l h]
    go_enter Tryd.func65, Tryd.ntmps65
    go_wp2_with fail
    go_region_held3 (fun w' => w'.cell? ⟨w.heap.size, 0, none⟩ = some (.int .u64 ah) ∧ w'.cell? ⟨w.heap.size, 1, none⟩ = some (.int .u64 al) ∧ w'.cell? ⟨w.heap.size + 1, 0, none⟩ = some (.int .u64 bh) ∧ w'.cell? ⟨w.heap.size + 1, 1, none⟩ = some (.int .u64 b_l))
      (simp (maxDischargeDepth := 8) [go_sem, *]) (first | (go_at_call 38; refine (r1_Less _ _ _ _ _).mono ?_; rintro e wn ⟨rfl, hbn⟩; obtain ⟨hcn, hfn, hzn0, hzn1, hzn2, hzn3, hzn4, hzn5, hzn6, hzn7, hzn8⟩ := bcell hbn; (try simp only [World.size_drew] at hcn hfn hzn0 hzn1 hzn2 hzn3 hzn4 hzn5 hzn6 hzn7 hzn8); have hsn := hbn.size; (try simp at hsn); (try have hq0 : w.heap.size < wn.heap.size := by omega); (try have hq1 : w.heap.size + 1 < wn.heap.size := by omega); (try have hq2 : w.heap.size + 1 + 1 < wn.heap.size := by omega); (try have hq3 : w.heap.size + 1 + 1 + 1 < wn.heap.size := by omega); (try have hq4 : w.heap.size + 1 + 1 + 1 + 1 < wn.heap.size := by omega); (try have hq5 : w.heap.size + 1 + 1 + 1 + 1 + 1 < wn.heap.size := by omega); (try have hq6 : w.heap.size + 1 + 1 + 1 + 1 + 1 + 1 < wn.heap.size := by omega); (try have hq7 : w.heap.size + 1 + 1 + 1 + 1 + 1 + 1 + 1 < wn.heap.size := by omega); (try have hggx : gx < wn.heap.size := by omega); (try have hggy : gy < wn.heap.size := by omega); (try have hggz : gz < wn.heap.size := by omega)))
    all_goals go_wp2_with fail
    all_goals (simp (maxDischargeDepth := 8) [bodyPost, results, Tryd.results65, go_sem, *]; try (repeat (first | (with_reducible exact Below.refl _ _) | (with_reducible assumption) | (with_reducible refine Below.alloc ?_ (by first | (with_reducible exact Nat.le_refl _) | omega | (simp <;> omega)) _) | (with_reducible refine Below.setCell ?_ (by first | (with_reducible exact Nat.le_refl _) | omega | (simp <;> omega)) _) | (with_reducible refine Below.drew ?_) | (with_reducible refine bel_step (by assumption) ?_ (by first | (with_reducible exact Nat.le_refl _) | omega | (simp <;> omega))))))
  · rw [← sub2_0 ah al bh b_l h]
    go_enter Tryd.func65, Tryd.ntmps65
    go_wp2_with fail
    go_region_held3 (fun w' => w'.cell? ⟨w.heap.size, 0, none⟩ = some (.int .u64 ah) ∧ w'.cell? ⟨w.heap.size, 1, none⟩ = some (.int .u64 al) ∧ w'.cell? ⟨w.heap.size + 1, 0, none⟩ = some (.int .u64 bh) ∧ w'.cell? ⟨w.heap.size + 1, 1, none⟩ = some (.int .u64 b_l))
      (simp (maxDischargeDepth := 8) [go_sem, *]) (first | (go_at_call 38; refine (r1_Less _ _ _ _ _).mono ?_; rintro e wn ⟨rfl, hbn⟩; obtain ⟨hcn, hfn, hzn0, hzn1, hzn2, hzn3, hzn4, hzn5, hzn6, hzn7, hzn8⟩ := bcell hbn; (try simp only [World.size_drew] at hcn hfn hzn0 hzn1 hzn2 hzn3 hzn4 hzn5 hzn6 hzn7 hzn8); have hsn := hbn.size; (try simp at hsn); (try have hq0 : w.heap.size < wn.heap.size := by omega); (try have hq1 : w.heap.size + 1 < wn.heap.size := by omega); (try have hq2 : w.heap.size + 1 + 1 < wn.heap.size := by omega); (try have hq3 : w.heap.size + 1 + 1 + 1 < wn.heap.size := by omega); (try have hq4 : w.heap.size + 1 + 1 + 1 + 1 < wn.heap.size := by omega); (try have hq5 : w.heap.size + 1 + 1 + 1 + 1 + 1 < wn.heap.size := by omega); (try have hq6 : w.heap.size + 1 + 1 + 1 + 1 + 1 + 1 < wn.heap.size := by omega); (try have hq7 : w.heap.size + 1 + 1 + 1 + 1 + 1 + 1 + 1 < wn.heap.size := by omega); (try have hggx : gx < wn.heap.size := by omega); (try have hggy : gy < wn.heap.size := by omega); (try have hggz : gz < wn.heap.size := by omega)))
    all_goals go_wp2_with fail
    all_goals (simp (maxDischargeDepth := 8) [bodyPost, results, Tryd.results65, go_sem, *]; try (repeat (first | (with_reducible exact Below.refl _ _) | (with_reducible assumption) | (with_reducible refine Below.alloc ?_ (by first | (with_reducible exact Nat.le_refl _) | omega | (simp <;> omega)) _) | (with_reducible refine Below.setCell ?_ (by first | (with_reducible exact Nat.le_refl _) | omega | (simp <;> omega)) _) | (with_reducible refine Below.drew ?_) | (with_reducible refine bel_step (by assumption) ?_ (by first | (with_reducible exact Nat.le_refl _) | omega | (simp <;> omega))))))
theorem neg_hi (a : Int) [h : F a] : wrap64 (hi (mod2 (val2 0 0 - val2 (IntKind.u64.wrap (hi a)) (lo a)))) = hi (-a) := by
  have := h.h; rw [wrap64_is, IntKind.wrap_u64]; unfold hi mod2 val2 lo; omega
theorem neg_lo (a : Int) [h : F a] : lo (mod2 (val2 0 0 - val2 (IntKind.u64.wrap (hi a)) (lo a))) = lo (-a) := by
  have := h.h; rw [IntKind.wrap_u64]; unfold hi mod2 val2 lo; omega
set_option maxRecDepth 100000 in
set_option maxHeartbeats 1600000 in
theorem r1_Neg (a : Int) [F a] : Gives 22 #[fx a] (fx (-a)) := by
  intro w
  unfold fx
  rw [← neg_hi a, ← neg_lo a]
  go_enter Tryd.func22, Tryd.ntmps22
  go_wp2_with (go_at_call 65; refine (r1_SubTwo _ _ _ _ _).mono ?_; rintro e wn ⟨rfl, hbn⟩; obtain ⟨hcn, hfn, hzn0, hzn1, hzn2, hzn3, hzn4, hzn5, hzn6, hzn7, hzn8⟩ := bcell hbn; (try simp only [World.size_drew] at hcn hfn hzn0 hzn1 hzn2 hzn3 hzn4 hzn5 hzn6 hzn7 hzn8); have hsn := hbn.size; (try simp at hsn); (try have hq0 : w.heap.size < wn.heap.size := by omega); (try have hq1 : w.heap.size + 1 < wn.heap.size := by omega); (try have hq2 : w.heap.size + 1 + 1 < wn.heap.size := by omega); (try have hq3 : w.heap.size + 1 + 1 + 1 < wn.heap.size := by omega); (try have hq4 : w.heap.size + 1 + 1 + 1 + 1 < wn.heap.size := by omega); (try have hq5 : w.heap.size + 1 + 1 + 1 + 1 + 1 < wn.heap.size := by omega); (try have hq6 : w.heap.size + 1 + 1 + 1 + 1 + 1 + 1 < wn.heap.size := by omega); (try have hq7 : w.heap.size + 1 + 1 + 1 + 1 + 1 + 1 + 1 < wn.heap.size := by omega); (try have hggx : gx < wn.heap.size := by omega); (try have hggy : gy < wn.heap.size := by omega); (try have hggz : gz < wn.heap.size := by omega))
  (simp (maxDischargeDepth := 8) [bodyPost, results, Tryd.results22, go_sem, *]; try (repeat (first | (with_reducible exact Below.refl _ _) | (with_reducible assumption) | (with_reducible refine Below.alloc ?_ (by first | (with_reducible exact Nat.le_refl _) | omega | (simp <;> omega)) _) | (with_reducible refine Below.setCell ?_ (by first | (with_reducible exact Nat.le_refl _) | omega | (simp <;> omega)) _) | (with_reducible refine Below.drew ?_) | (with_reducible refine bel_step (by assumption) ?_ (by first | (with_reducible exact Nat.le_refl _) | omega | (simp <;> omega))))))
set_option maxRecDepth 100000 in
set_option maxHeartbeats 1600000 in
theorem r1_NegVec (x y : Int) [F x] [F y] : Gives 23 #[vec x y] (vec (-x) (-y)) := by
  intro w
  go_enter Tryd.func23, Tryd.ntmps23
  go_wp2_with fail
  go_region_held3 (fun w' => w'.cell? ⟨w.heap.size, 0, none⟩ = some (.int .i64 (hi x)) ∧ w'.cell? ⟨w.heap.size, 1, none⟩ = some (.int .u64 (lo x)) ∧ w'.cell? ⟨w.heap.size, 2, none⟩ = some (.int .i64 (hi y)) ∧ w'.cell? ⟨w.heap.size, 3, none⟩ = some (.int .u64 (lo y)))
    (simp (maxDischargeDepth := 8) [go_sem, *]) (first | (go_at_call 22; refine (r1_Neg _ _).mono ?_; rintro e wn ⟨rfl, hbn⟩; obtain ⟨hcn, hfn, hzn0, hzn1, hzn2, hzn3, hzn4, hzn5, hzn6, hzn7, hzn8⟩ := bcell hbn; (try simp only [World.size_drew] at hcn hfn hzn0 hzn1 hzn2 hzn3 hzn4 hzn5 hzn6 hzn7 hzn8); have hsn := hbn.size; (try simp at hsn); (try have hq0 : w.heap.size < wn.heap.size := by omega); (try have hq1 : w.heap.size + 1 < wn.heap.size := by omega); (try have hq2 : w.heap.size + 1 + 1 < wn.heap.size := by omega); (try have hq3 : w.heap.size + 1 + 1 + 1 < wn.heap.size := by omega); (try have hq4 : w.heap.size + 1 + 1 + 1 + 1 < wn.heap.size := by omega); (try have hq5 : w.heap.size + 1 + 1 + 1 + 1 + 1 < wn.heap.size := by omega); (try have hq6 : w.heap.size + 1 + 1 + 1 + 1 + 1 + 1 < wn.heap.size := by omega); (try have hq7 : w.heap.size + 1 + 1 + 1 + 1 + 1 + 1 + 1 < wn.heap.size := by omega); (try have hggx : gx < wn.heap.size := by omega); (try have hggy : gy < wn.heap.size := by omega); (try have hggz : gz < wn.heap.size := by omega)))
  all_goals go_wp2_with fail
  all_goals (simp (maxDischargeDepth := 8) [bodyPost, results, Tryd.results23, go_sem, *]; try (repeat (first | (with_reducible exact Below.refl _ _) | (with_reducible assumption) | (with_reducible refine Below.alloc ?_ (by first | (with_reducible exact Nat.le_refl _) | omega | (simp <;> omega)) _) | (with_reducible refine Below.setCell ?_ (by first | (with_reducible exact Nat.le_refl _) | omega | (simp <;> omega)) _) | (with_reducible refine Below.drew ?_) | (with_reducible refine bel_step (by assumption) ?_ (by first | (with_reducible exact Nat.le_refl _) | omega | (simp <;> omega))))))
/-- Whether a number of two's complement may be. -/
def mayF (h l : Int) : Bool := h != -9223372036854775808 || l != 0
set_option maxHeartbeats 800000 in
theorem r1_May (h l : Int) : Gives 66 #[.agg #[.int .i64 h, .int .u64 l]] (.bool (mayF h l)) := by
  intro w
  unfold mayF
  cases h1 : (h != -9223372036854775808)
  · go_enter Tryd.func66, Tryd.ntmps66
    go_wp2_with fail
    (simp (maxDischargeDepth := 8) [bodyPost, results, Tryd.results66, go_sem, *]; try (repeat (first | (with_reducible exact Below.refl _ _) | (with_reducible assumption) | (with_reducible refine Below.alloc ?_ (by first | (with_reducible exact Nat.le_refl _) | omega | (simp <;> omega)) _) | (with_reducible refine Below.setCell ?_ (by first | (with_reducible exact Nat.le_refl _) | omega | (simp <;> omega)) _) | (with_reducible refine Below.drew ?_) | (with_reducible refine bel_step (by assumption) ?_ (by first | (with_reducible exact Nat.le_refl _) | omega | (simp <;> omega))))))
  · go_enter Tryd.func66, Tryd.ntmps66
    go_wp2_with fail
    (simp (maxDischargeDepth := 8) [bodyPost, results, Tryd.results66, go_sem, *]; try (repeat (first | (with_reducible exact Below.refl _ _) | (with_reducible assumption) | (with_reducible refine Below.alloc ?_ (by first | (with_reducible exact Nat.le_refl _) | omega | (simp <;> omega)) _) | (with_reducible refine Below.setCell ?_ (by first | (with_reducible exact Nat.le_refl _) | omega | (simp <;> omega)) _) | (with_reducible refine Below.drew ?_) | (with_reducible refine bel_step (by assumption) ?_ (by first | (with_reducible exact Nat.le_refl _) | omega | (simp <;> omega))))))
set_option maxHeartbeats 800000 in
theorem r1_MayVec (a b c d : Int) : Gives 24 #[.agg #[.int .i64 a, .int .u64 b, .int .i64 c, .int .u64 d]] (.bool (mayF a b && mayF c d)) := by
  intro w
  cases h1 : mayF a b
  · go_enter Tryd.func24, Tryd.ntmps24
    go_wp2_with (go_at_call 66; refine (r1_May _ _ _).mono ?_; rintro e wn ⟨rfl, hbn⟩; obtain ⟨hcn, hfn, hzn0, hzn1, hzn2, hzn3, hzn4, hzn5, hzn6, hzn7, hzn8⟩ := bcell hbn; (try simp only [World.size_drew] at hcn hfn hzn0 hzn1 hzn2 hzn3 hzn4 hzn5 hzn6 hzn7 hzn8); have hsn := hbn.size; (try simp at hsn); (try have hq0 : w.heap.size < wn.heap.size := by omega); (try have hq1 : w.heap.size + 1 < wn.heap.size := by omega); (try have hq2 : w.heap.size + 1 + 1 < wn.heap.size := by omega); (try have hq3 : w.heap.size + 1 + 1 + 1 < wn.heap.size := by omega); (try have hq4 : w.heap.size + 1 + 1 + 1 + 1 < wn.heap.size := by omega); (try have hq5 : w.heap.size + 1 + 1 + 1 + 1 + 1 < wn.heap.size := by omega); (try have hq6 : w.heap.size + 1 + 1 + 1 + 1 + 1 + 1 < wn.heap.size := by omega); (try have hq7 : w.heap.size + 1 + 1 + 1 + 1 + 1 + 1 + 1 < wn.heap.size := by omega); (try have hggx : gx < wn.heap.size := by omega); (try have hggy : gy < wn.heap.size := by omega); (try have hggz : gz < wn.heap.size := by omega))
    (simp (maxDischargeDepth := 8) [bodyPost, results, Tryd.results24, go_sem, *]; try (repeat (first | (with_reducible exact Below.refl _ _) | (with_reducible assumption) | (with_reducible refine Below.alloc ?_ (by first | (with_reducible exact Nat.le_refl _) | omega | (simp <;> omega)) _) | (with_reducible refine Below.setCell ?_ (by first | (with_reducible exact Nat.le_refl _) | omega | (simp <;> omega)) _) | (with_reducible refine Below.drew ?_) | (with_reducible refine bel_step (by assumption) ?_ (by first | (with_reducible exact Nat.le_refl _) | omega | (simp <;> omega))))))
  · go_enter Tryd.func24, Tryd.ntmps24
    go_wp2_with (go_at_call 66; refine (r1_May _ _ _).mono ?_; rintro e wn ⟨rfl, hbn⟩; obtain ⟨hcn, hfn, hzn0, hzn1, hzn2, hzn3, hzn4, hzn5, hzn6, hzn7, hzn8⟩ := bcell hbn; (try simp only [World.size_drew] at hcn hfn hzn0 hzn1 hzn2 hzn3 hzn4 hzn5 hzn6 hzn7 hzn8); have hsn := hbn.size; (try simp at hsn); (try have hq0 : w.heap.size < wn.heap.size := by omega); (try have hq1 : w.heap.size + 1 < wn.heap.size := by omega); (try have hq2 : w.heap.size + 1 + 1 < wn.heap.size := by omega); (try have hq3 : w.heap.size + 1 + 1 + 1 < wn.heap.size := by omega); (try have hq4 : w.heap.size + 1 + 1 + 1 + 1 < wn.heap.size := by omega); (try have hq5 : w.heap.size + 1 + 1 + 1 + 1 + 1 < wn.heap.size := by omega); (try have hq6 : w.heap.size + 1 + 1 + 1 + 1 + 1 + 1 < wn.heap.size := by omega); (try have hq7 : w.heap.size + 1 + 1 + 1 + 1 + 1 + 1 + 1 < wn.heap.size := by omega); (try have hggx : gx < wn.heap.size := by omega); (try have hggy : gy < wn.heap.size := by omega); (try have hggz : gz < wn.heap.size := by omega))
    (simp (maxDischargeDepth := 8) [bodyPost, results, Tryd.results24, go_sem, *]; try (repeat (first | (with_reducible exact Below.refl _ _) | (with_reducible assumption) | (with_reducible refine Below.alloc ?_ (by first | (with_reducible exact Nat.le_refl _) | omega | (simp <;> omega)) _) | (with_reducible refine Below.setCell ?_ (by first | (with_reducible exact Nat.le_refl _) | omega | (simp <;> omega)) _) | (with_reducible refine Below.drew ?_) | (with_reducible refine bel_step (by assumption) ?_ (by first | (with_reducible exact Nat.le_refl _) | omega | (simp <;> omega))))))
set_option maxHeartbeats 800000 in
theorem r1_Int (n : Int) (h : -9223372036854775807 ≤ n ∧ n ≤ 9223372036854775807) : Gives 28 #[.int .i64 n] (fx (n * 18446744073709551616)) := by
  intro w
  have e1 : hi (n * 18446744073709551616) = n := by unfold hi; omega
  have e2 : lo (n * 18446744073709551616) = 0 := by unfold lo; omega
  unfold fx
  rw [e1, e2]
  clear e1 e2
  go_enter Tryd.func28, Tryd.ntmps28
  go_wp2
  rw [show max n (-9223372036854775807) = n from by omega]
  (simp (maxDischargeDepth := 8) [bodyPost, results, Tryd.results28, go_sem, *]; try (repeat (first | (with_reducible exact Below.refl _ _) | (with_reducible assumption) | (with_reducible refine Below.alloc ?_ (by first | (with_reducible exact Nat.le_refl _) | omega | (simp <;> omega)) _) | (with_reducible refine Below.setCell ?_ (by first | (with_reducible exact Nat.le_refl _) | omega | (simp <;> omega)) _) | (with_reducible refine Below.drew ?_) | (with_reducible refine bel_step (by assumption) ?_ (by first | (with_reducible exact Nat.le_refl _) | omega | (simp <;> omega))))))
set_option maxHeartbeats 800000 in
theorem l1_Num (n : Int) : Gives 27 #[.int .i64 n] (.int .i64 n) := by
  intro w
  go_enter Tryd.func27, Tryd.ntmps27
  go_wp2
  (simp (maxDischargeDepth := 8) [bodyPost, results, Tryd.results27, go_sem, *]; try (repeat (first | (with_reducible exact Below.refl _ _) | (with_reducible assumption) | (with_reducible refine Below.alloc ?_ (by first | (with_reducible exact Nat.le_refl _) | omega | (simp <;> omega)) _) | (with_reducible refine Below.setCell ?_ (by first | (with_reducible exact Nat.le_refl _) | omega | (simp <;> omega)) _) | (with_reducible refine Below.drew ?_) | (with_reducible refine bel_step (by assumption) ?_ (by first | (with_reducible exact Nat.le_refl _) | omega | (simp <;> omega))))))
end Go.Proofs.YtpbklojdmkpkcaaDoor
