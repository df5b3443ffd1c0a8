/- fix: turned about; sums, differences, products, halves. -/
import Derived.Test.YtpbklojdmkpkcaaDoorFixB
namespace Go.Proofs.YtpbklojdmkpkcaaDoor
open Go.RowKit
set_option linter.unusedSimpArgs false
set_option linter.unusedVariables false

theorem ofSize_not (a : Int) [h : F a] : ofSize (mag a) (!neg a) = -a := by
  have := h.h
  unfold ofSize mag neg
  by_cases hn : a < 0
  · simp [hn]; exact signed_of (-a)
  · simp [hn]; exact signed_of (-a)
theorem ofSize_mag (a : Int) [h : F a] : ofSize (mag a) (neg a) = a := by
  have := h.h
  unfold ofSize mag neg
  by_cases hn : a < 0
  · simp [hn]; exact signed_of a
  · simp [hn]; exact signed_of a

set_option maxHeartbeats 800000 in
theorem fix_Neg (a : Int) [h : F a] : Gives 107 #[fx a] (fx (-a)) := by
  intro w
  have e := ofSize_not a
  rw [← val2_hi_lo (mag a)] at e
  rw [← e]
  clear e
  go_enter Tryd.func107, Tryd.ntmps107
  go_wp2_with (first | (go_at_call 119; refine (fix_of _ _).mono ?_; rintro e wn ⟨rfl, hbn⟩; obtain ⟨hcn, hfn, hzn0, hzn1, hzn2, hzn3, hzn4, hzn5, hzn6, hzn7, hzn8⟩ := bcell hbn; (try simp only [World.size_drew] at hcn hfn hzn0 hzn1 hzn2 hzn3 hzn4 hzn5 hzn6 hzn7 hzn8); have hsn := hbn.size; (try simp at hsn); (try have hq0 : w.heap.size < wn.heap.size := by omega); (try have hq1 : w.heap.size + 1 < wn.heap.size := by omega); (try have hq2 : w.heap.size + 1 + 1 < wn.heap.size := by omega); (try have hq3 : w.heap.size + 1 + 1 + 1 < wn.heap.size := by omega); (try have hq4 : w.heap.size + 1 + 1 + 1 + 1 < wn.heap.size := by omega); (try have hq5 : w.heap.size + 1 + 1 + 1 + 1 + 1 < wn.heap.size := by omega); (try have hq6 : w.heap.size + 1 + 1 + 1 + 1 + 1 + 1 < wn.heap.size := by omega); (try have hq7 : w.heap.size + 1 + 1 + 1 + 1 + 1 + 1 + 1 < wn.heap.size := by omega); (try have hggx : gx < wn.heap.size := by omega); (try have hggy : gy < wn.heap.size := by omega); (try have hggz : gz < wn.heap.size := by omega)) | (go_at_call 140; refine (fix_fix _ _ _ _).mono ?_; rintro e wn ⟨rfl, hbn⟩; obtain ⟨hcn, hfn, hzn0, hzn1, hzn2, hzn3, hzn4, hzn5, hzn6, hzn7, hzn8⟩ := bcell hbn; (try simp only [World.size_drew] at hcn hfn hzn0 hzn1 hzn2 hzn3 hzn4 hzn5 hzn6 hzn7 hzn8); have hsn := hbn.size; (try simp at hsn); (try have hq0 : w.heap.size < wn.heap.size := by omega); (try have hq1 : w.heap.size + 1 < wn.heap.size := by omega); (try have hq2 : w.heap.size + 1 + 1 < wn.heap.size := by omega); (try have hq3 : w.heap.size + 1 + 1 + 1 < wn.heap.size := by omega); (try have hq4 : w.heap.size + 1 + 1 + 1 + 1 < wn.heap.size := by omega); (try have hq5 : w.heap.size + 1 + 1 + 1 + 1 + 1 < wn.heap.size := by omega); (try have hq6 : w.heap.size + 1 + 1 + 1 + 1 + 1 + 1 < wn.heap.size := by omega); (try have hq7 : w.heap.size + 1 + 1 + 1 + 1 + 1 + 1 + 1 < wn.heap.size := by omega); (try have hggx : gx < wn.heap.size := by omega); (try have hggy : gy < wn.heap.size := by omega); (try have hggz : gz < wn.heap.size := by omega)))
  (simp (maxDischargeDepth := 8) [bodyPost, results, Tryd.results107, go_sem, *]; try (repeat (first | (with_reducible exact Below.refl _ _) | (with_reducible assumption) | (with_reducible refine Below.alloc ?_ (by first | (with_reducible exact Nat.le_refl _) | omega | (simp <;> omega)) _) | (with_reducible refine Below.setCell ?_ (by first | (with_reducible exact Nat.le_refl _) | omega | (simp <;> omega)) _) | (with_reducible refine Below.drew ?_) | (with_reducible refine bel_step (by assumption) ?_ (by first | (with_reducible exact Nat.le_refl _) | omega | (simp <;> omega))))))

/-- A sum, if there is one. -/
def addF (a b : Int) : Except Int Int := if -170141183460469231731687303715884105728 < a + b ∧ a + b < 170141183460469231731687303715884105728 then .ok (a + b) else .error 3
theorem addF_F {a b r : Int} (h : addF a b = .ok r) : F r := by
  unfold addF at h; split at h
  · cases h; exact ⟨by omega⟩
  · cases h
def subF (a b : Int) : Except Int Int := addF a (-b)
/-- The three ways of a sum. -/
theorem add_same (a b : Int) [ha : F a] [hb : F b] (h : neg a = neg b) :
    tell (val4 0 0 (hi (mod2 (val2 (hi (mag a)) (lo (mag a)) + val2 (hi (mag b)) (lo (mag b))))) (lo (mod2 (val2 (hi (mag a)) (lo (mag a)) + val2 (hi (mag b)) (lo (mag b)))))) (neg a) = addF a b := by
  have := ha.h; have := hb.h
  rw [val4_0, val2_hi_lo, val2_hi_lo, val2_hi_lo]
  unfold neg at *
  unfold tell addF mag mod2
  by_cases h1 : a < 0
  · have h2 : b < 0 := by simpa [h1] using h
    simp [h1, h2]
    split
    · rw [if_neg (by omega)]
    · rw [if_pos (by omega)]; congr 1; omega
  · have h2 : ¬ b < 0 := by simpa [h1] using h
    simp [h1, h2]
    split
    · rw [if_neg (by omega)]
    · rw [if_pos (by omega)]; congr 1; omega
theorem add_less (a b : Int) [ha : F a] [hb : F b] (h : (neg a == neg b) = false) (hl : below (val2 (hi (mag a)) (lo (mag a)) - val2 (hi (mag b)) (lo (mag b))) = true) :
    addF a b = .ok (ofSize (val2 (hi (mod2 (val2 (hi (mag b)) (lo (mag b)) - val2 (hi (mag a)) (lo (mag a))))) (lo (mod2 (val2 (hi (mag b)) (lo (mag b)) - val2 (hi (mag a)) (lo (mag a)))))) (neg b)) := by
  have := ha.h; have := hb.h
  rw [val2_hi_lo, val2_hi_lo, val2_hi_lo] at *
  unfold neg at *
  have hl := of_decide_eq_true hl
  unfold addF ofSize mag mod2 signed at *
  by_cases h1 : a < 0 <;> by_cases h2 : b < 0 <;> simp [h1, h2] at h hl ⊢
  · rw [if_pos (by omega)]; congr 1; omega
  · rw [if_pos (by omega)]; congr 1; omega
theorem add_more (a b : Int) [ha : F a] [hb : F b] (h : (neg a == neg b) = false) (hl : below (val2 (hi (mag a)) (lo (mag a)) - val2 (hi (mag b)) (lo (mag b))) = false) :
    addF a b = .ok (ofSize (val2 (hi (mod2 (val2 (hi (mag a)) (lo (mag a)) - val2 (hi (mag b)) (lo (mag b))))) (lo (mod2 (val2 (hi (mag a)) (lo (mag a)) - val2 (hi (mag b)) (lo (mag b)))))) (neg a)) := by
  have := ha.h; have := hb.h
  rw [val2_hi_lo, val2_hi_lo, val2_hi_lo] at *
  unfold neg at *
  have hl := of_decide_eq_false hl
  unfold addF ofSize mag mod2 signed at *
  by_cases h1 : a < 0 <;> by_cases h2 : b < 0 <;> simp [h1, h2] at h hl ⊢
  · rw [if_pos (by omega)]; congr 1; omega
  · rw [if_pos (by omega)]; congr 1; omega

end Go.Proofs.YtpbklojdmkpkcaaDoor
