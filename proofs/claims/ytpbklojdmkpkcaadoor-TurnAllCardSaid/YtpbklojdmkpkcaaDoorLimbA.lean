/- limb: sums and differences of two words. -/
import Derived.Test.YtpbklojdmkpkcaaDoorBase
namespace Go.Proofs.YtpbklojdmkpkcaaDoor
open Go.RowKit
set_option linter.unusedSimpArgs false
set_option linter.unusedVariables false

set_option maxHeartbeats 400000 in
theorem limb_Add (ah al bh bl : Int) [h1 : U ah] [h2 : U al] [h3 : U bh] [h4 : U bl] :
    Gives 142 #[.agg #[.int .u64 ah, .int .u64 al], .agg #[.int .u64 bh, .int .u64 bl]] (.tuple #[two (mod2 (val2 ah al + val2 bh bl)), .bool (over2 (val2 ah al + val2 bh bl))]) := by
  intro w
  rw [← add_over ah al bh bl]
  unfold two
  rw [← add_hi ah al bh bl, ← add_lo ah al bh bl]
  have k := car_01 al bl 0 h2 h4 (by decide)
  go_enter Tryd.func142, Tryd.ntmps142
  go_wp2_with (first | simp only [run_add64_0 al bl h2 h4] | simp only [run_add64 ah bh _ h1 h3 k])
  (simp (maxDischargeDepth := 8) [bodyPost, results, Tryd.results142, go_sem, *]; try (repeat (first | (with_reducible exact Below.refl _ _) | (with_reducible assumption) | (with_reducible refine Below.alloc ?_ (by first | (with_reducible exact Nat.le_refl _) | omega | (simp <;> omega)) _) | (with_reducible refine Below.setCell ?_ (by first | (with_reducible exact Nat.le_refl _) | omega | (simp <;> omega)) _) | (with_reducible refine Below.drew ?_) | (with_reducible refine bel_step (by assumption) ?_ (by first | (with_reducible exact Nat.le_refl _) | omega | (simp <;> omega))))))

set_option maxHeartbeats 400000 in
theorem limb_Sub (ah al bh bl : Int) [h1 : U ah] [h2 : U al] [h3 : U bh] [h4 : U bl] :
    Gives 136 #[.agg #[.int .u64 ah, .int .u64 al], .agg #[.int .u64 bh, .int .u64 bl]] (.tuple #[two (mod2 (val2 ah al - val2 bh bl)), .bool (below (val2 ah al - val2 bh bl))]) := by
  intro w
  rw [← sub_below ah al bh bl]
  unfold two
  rw [← sub_hi ah al bh bl, ← sub_lo ah al bh bl]
  have k := bor_01 al bl 0
  go_enter Tryd.func136, Tryd.ntmps136
  go_wp2_with (first | simp only [run_sub64_0 al bl h2 h4] | simp only [run_sub64 ah bh _ h1 h3 k])
  (simp (maxDischargeDepth := 8) [bodyPost, results, Tryd.results136, go_sem, *]; try (repeat (first | (with_reducible exact Below.refl _ _) | (with_reducible assumption) | (with_reducible refine Below.alloc ?_ (by first | (with_reducible exact Nat.le_refl _) | omega | (simp <;> omega)) _) | (with_reducible refine Below.setCell ?_ (by first | (with_reducible exact Nat.le_refl _) | omega | (simp <;> omega)) _) | (with_reducible refine Below.drew ?_) | (with_reducible refine bel_step (by assumption) ?_ (by first | (with_reducible exact Nat.le_refl _) | omega | (simp <;> omega))))))

set_option maxHeartbeats 400000 in
theorem fix_wide (ah al : Int) : Gives 124 #[.agg #[.int .u64 ah, .int .u64 al]] (.agg #[.int .u64 0, .int .u64 0, .int .u64 ah, .int .u64 al]) := by
  intro w
  go_enter Tryd.func124, Tryd.ntmps124
  go_wp2
  (simp (maxDischargeDepth := 8) [bodyPost, results, Tryd.results124, go_sem, *]; try (repeat (first | (with_reducible exact Below.refl _ _) | (with_reducible assumption) | (with_reducible refine Below.alloc ?_ (by first | (with_reducible exact Nat.le_refl _) | omega | (simp <;> omega)) _) | (with_reducible refine Below.setCell ?_ (by first | (with_reducible exact Nat.le_refl _) | omega | (simp <;> omega)) _) | (with_reducible refine Below.drew ?_) | (with_reducible refine bel_step (by assumption) ?_ (by first | (with_reducible exact Nat.le_refl _) | omega | (simp <;> omega))))))
set_option maxHeartbeats 400000 in
theorem limb_list (a b c d : Int) : Gives 146 #[.agg #[.int .u64 a, .int .u64 b, .int .u64 c, .int .u64 d]] (.agg #[.int .u64 d, .int .u64 c, .int .u64 b, .int .u64 a]) := by
  intro w
  go_enter Tryd.func146, Tryd.ntmps146
  go_wp2
  (simp (maxDischargeDepth := 8) [bodyPost, results, Tryd.results146, go_sem, *]; try (repeat (first | (with_reducible exact Below.refl _ _) | (with_reducible assumption) | (with_reducible refine Below.alloc ?_ (by first | (with_reducible exact Nat.le_refl _) | omega | (simp <;> omega)) _) | (with_reducible refine Below.setCell ?_ (by first | (with_reducible exact Nat.le_refl _) | omega | (simp <;> omega)) _) | (with_reducible refine Below.drew ?_) | (with_reducible refine bel_step (by assumption) ?_ (by first | (with_reducible exact Nat.le_refl _) | omega | (simp <;> omega))))))
set_option maxHeartbeats 400000 in
theorem limb_four (a b c d : Int) : Gives 147 #[.agg #[.int .u64 a, .int .u64 b, .int .u64 c, .int .u64 d]] (.agg #[.int .u64 d, .int .u64 c, .int .u64 b, .int .u64 a]) := by
  intro w
  go_enter Tryd.func147, Tryd.ntmps147
  go_wp2
  (simp (maxDischargeDepth := 8) [bodyPost, results, Tryd.results147, go_sem, *]; try (repeat (first | (with_reducible exact Below.refl _ _) | (with_reducible assumption) | (with_reducible refine Below.alloc ?_ (by first | (with_reducible exact Nat.le_refl _) | omega | (simp <;> omega)) _) | (with_reducible refine Below.setCell ?_ (by first | (with_reducible exact Nat.le_refl _) | omega | (simp <;> omega)) _) | (with_reducible refine Below.drew ?_) | (with_reducible refine bel_step (by assumption) ?_ (by first | (with_reducible exact Nat.le_refl _) | omega | (simp <;> omega))))))
set_option maxHeartbeats 400000 in
theorem fix_of (a : Int) [h : F a] : Gives 119 #[fx a] (.agg #[.int .u64 (hi (mag a)), .int .u64 (lo (mag a)), .bool (neg a)]) := by
  intro w
  have hs := sign_bit a
  cases hn : neg a
  · rw [hn] at hs
    have hm := mag_pos a hn
    rw [← IntKind.wrap_u64] at hm
    rw [← hm.1, ← hm.2]
    clear hm hn
    go_enter Tryd.func119, Tryd.ntmps119
    go_wp2_with (go_at_call 136; refine (limb_Sub _ _ _ _ _).mono ?_; rintro e wn ⟨rfl, hbn⟩; obtain ⟨hcn, hfn, hzn0, hzn1, hzn2, hzn3, hzn4, hzn5, hzn6, hzn7, hzn8⟩ := bcell hbn; (try simp only [World.size_drew] at hcn hfn hzn0 hzn1 hzn2 hzn3 hzn4 hzn5 hzn6 hzn7 hzn8); have hsn := hbn.size; (try simp at hsn); (try have hq0 : w.heap.size < wn.heap.size := by omega); (try have hq1 : w.heap.size + 1 < wn.heap.size := by omega); (try have hq2 : w.heap.size + 1 + 1 < wn.heap.size := by omega); (try have hq3 : w.heap.size + 1 + 1 + 1 < wn.heap.size := by omega); (try have hq4 : w.heap.size + 1 + 1 + 1 + 1 < wn.heap.size := by omega); (try have hq5 : w.heap.size + 1 + 1 + 1 + 1 + 1 < wn.heap.size := by omega); (try have hq6 : w.heap.size + 1 + 1 + 1 + 1 + 1 + 1 < wn.heap.size := by omega); (try have hq7 : w.heap.size + 1 + 1 + 1 + 1 + 1 + 1 + 1 < wn.heap.size := by omega); (try have hggx : gx < wn.heap.size := by omega); (try have hggy : gy < wn.heap.size := by omega); (try have hggz : gz < wn.heap.size := by omega))
    (simp (maxDischargeDepth := 8) [bodyPost, results, Tryd.results119, go_sem, *]; try (repeat (first | (with_reducible exact Below.refl _ _) | (with_reducible assumption) | (with_reducible refine Below.alloc ?_ (by first | (with_reducible exact Nat.le_refl _) | omega | (simp <;> omega)) _) | (with_reducible refine Below.setCell ?_ (by first | (with_reducible exact Nat.le_refl _) | omega | (simp <;> omega)) _) | (with_reducible refine Below.drew ?_) | (with_reducible refine bel_step (by assumption) ?_ (by first | (with_reducible exact Nat.le_refl _) | omega | (simp <;> omega))))))
  · rw [hn] at hs
    have hm := mag_neg a hn
    rw [← IntKind.wrap_u64] at hm
    rw [← hm]
    clear hm hn
    go_enter Tryd.func119, Tryd.ntmps119
    go_wp2_with (go_at_call 136; refine (limb_Sub _ _ _ _ _).mono ?_; rintro e wn ⟨rfl, hbn⟩; obtain ⟨hcn, hfn, hzn0, hzn1, hzn2, hzn3, hzn4, hzn5, hzn6, hzn7, hzn8⟩ := bcell hbn; (try simp only [World.size_drew] at hcn hfn hzn0 hzn1 hzn2 hzn3 hzn4 hzn5 hzn6 hzn7 hzn8); have hsn := hbn.size; (try simp at hsn); (try have hq0 : w.heap.size < wn.heap.size := by omega); (try have hq1 : w.heap.size + 1 < wn.heap.size := by omega); (try have hq2 : w.heap.size + 1 + 1 < wn.heap.size := by omega); (try have hq3 : w.heap.size + 1 + 1 + 1 < wn.heap.size := by omega); (try have hq4 : w.heap.size + 1 + 1 + 1 + 1 < wn.heap.size := by omega); (try have hq5 : w.heap.size + 1 + 1 + 1 + 1 + 1 < wn.heap.size := by omega); (try have hq6 : w.heap.size + 1 + 1 + 1 + 1 + 1 + 1 < wn.heap.size := by omega); (try have hq7 : w.heap.size + 1 + 1 + 1 + 1 + 1 + 1 + 1 < wn.heap.size := by omega); (try have hggx : gx < wn.heap.size := by omega); (try have hggy : gy < wn.heap.size := by omega); (try have hggz : gz < wn.heap.size := by omega))
    (simp (maxDischargeDepth := 8) [bodyPost, results, Tryd.results119, go_sem, *]; try (repeat (first | (with_reducible exact Below.refl _ _) | (with_reducible assumption) | (with_reducible refine Below.alloc ?_ (by first | (with_reducible exact Nat.le_refl _) | omega | (simp <;> omega)) _) | (with_reducible refine Below.setCell ?_ (by first | (with_reducible exact Nat.le_refl _) | omega | (simp <;> omega)) _) | (with_reducible refine Below.drew ?_) | (with_reducible refine bel_step (by assumption) ?_ (by first | (with_reducible exact Nat.le_refl _) | omega | (simp <;> omega))))))
set_option maxHeartbeats 400000 in
theorem fix_fix (h l : Int) (b : Bool) [h1 : U h] [h2 : U l] : Gives 140 #[.agg #[.int .u64 h, .int .u64 l, .bool b]] (fx (ofSize (val2 h l) b)) := by
  intro w
  cases b
  · have e := ofSize_pos h l
    rw [← wrap64_is] at e
    unfold fx
    rw [← e.1, ← e.2]
    clear e
    go_enter Tryd.func140, Tryd.ntmps140
    go_wp2_with (go_at_call 136; refine (limb_Sub _ _ _ _ _).mono ?_; rintro e wn ⟨rfl, hbn⟩; obtain ⟨hcn, hfn, hzn0, hzn1, hzn2, hzn3, hzn4, hzn5, hzn6, hzn7, hzn8⟩ := bcell hbn; (try simp only [World.size_drew] at hcn hfn hzn0 hzn1 hzn2 hzn3 hzn4 hzn5 hzn6 hzn7 hzn8); have hsn := hbn.size; (try simp at hsn); (try have hq0 : w.heap.size < wn.heap.size := by omega); (try have hq1 : w.heap.size + 1 < wn.heap.size := by omega); (try have hq2 : w.heap.size + 1 + 1 < wn.heap.size := by omega); (try have hq3 : w.heap.size + 1 + 1 + 1 < wn.heap.size := by omega); (try have hq4 : w.heap.size + 1 + 1 + 1 + 1 < wn.heap.size := by omega); (try have hq5 : w.heap.size + 1 + 1 + 1 + 1 + 1 < wn.heap.size := by omega); (try have hq6 : w.heap.size + 1 + 1 + 1 + 1 + 1 + 1 < wn.heap.size := by omega); (try have hq7 : w.heap.size + 1 + 1 + 1 + 1 + 1 + 1 + 1 < wn.heap.size := by omega); (try have hggx : gx < wn.heap.size := by omega); (try have hggy : gy < wn.heap.size := by omega); (try have hggz : gz < wn.heap.size := by omega))
    (simp (maxDischargeDepth := 8) [bodyPost, results, Tryd.results140, go_sem, *]; try (repeat (first | (with_reducible exact Below.refl _ _) | (with_reducible assumption) | (with_reducible refine Below.alloc ?_ (by first | (with_reducible exact Nat.le_refl _) | omega | (simp <;> omega)) _) | (with_reducible refine Below.setCell ?_ (by first | (with_reducible exact Nat.le_refl _) | omega | (simp <;> omega)) _) | (with_reducible refine Below.drew ?_) | (with_reducible refine bel_step (by assumption) ?_ (by first | (with_reducible exact Nat.le_refl _) | omega | (simp <;> omega))))))
  · have e := ofSize_neg h l
    rw [← wrap64_is] at e
    unfold fx
    rw [← e.1, ← e.2]
    clear e
    go_enter Tryd.func140, Tryd.ntmps140
    go_wp2_with (go_at_call 136; refine (limb_Sub _ _ _ _ _).mono ?_; rintro e wn ⟨rfl, hbn⟩; obtain ⟨hcn, hfn, hzn0, hzn1, hzn2, hzn3, hzn4, hzn5, hzn6, hzn7, hzn8⟩ := bcell hbn; (try simp only [World.size_drew] at hcn hfn hzn0 hzn1 hzn2 hzn3 hzn4 hzn5 hzn6 hzn7 hzn8); have hsn := hbn.size; (try simp at hsn); (try have hq0 : w.heap.size < wn.heap.size := by omega); (try have hq1 : w.heap.size + 1 < wn.heap.size := by omega); (try have hq2 : w.heap.size + 1 + 1 < wn.heap.size := by omega); (try have hq3 : w.heap.size + 1 + 1 + 1 < wn.heap.size := by omega); (try have hq4 : w.heap.size + 1 + 1 + 1 + 1 < wn.heap.size := by omega); (try have hq5 : w.heap.size + 1 + 1 + 1 + 1 + 1 < wn.heap.size := by omega); (try have hq6 : w.heap.size + 1 + 1 + 1 + 1 + 1 + 1 < wn.heap.size := by omega); (try have hq7 : w.heap.size + 1 + 1 + 1 + 1 + 1 + 1 + 1 < wn.heap.size := by omega); (try have hggx : gx < wn.heap.size := by omega); (try have hggy : gy < wn.heap.size := by omega); (try have hggz : gz < wn.heap.size := by omega))
    (simp (maxDischargeDepth := 8) [bodyPost, results, Tryd.results140, go_sem, *]; try (repeat (first | (with_reducible exact Below.refl _ _) | (with_reducible assumption) | (with_reducible refine Below.alloc ?_ (by first | (with_reducible exact Nat.le_refl _) | omega | (simp <;> omega)) _) | (with_reducible refine Below.setCell ?_ (by first | (with_reducible exact Nat.le_refl _) | omega | (simp <;> omega)) _) | (with_reducible refine Below.drew ?_) | (with_reducible refine bel_step (by assumption) ?_ (by first | (with_reducible exact Nat.le_refl _) | omega | (simp <;> omega))))))
    trace_state
end Go.Proofs.YtpbklojdmkpkcaaDoor
