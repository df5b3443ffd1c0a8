/- fix: products, whole numbers, differences. -/
import Derived.Test.YtpbklojdmkpkcaaDoorFixD
namespace Go.Proofs.YtpbklojdmkpkcaaDoor
open Go.RowKit
set_option linter.unusedSimpArgs false
set_option linter.unusedVariables false
/-- A product: the nearest, of two as near that farther from nought; if there is one. -/
def mulF (a b : Int) : Except Int Int := tell ((mag a * mag b + 9223372036854775808) / 18446744073709551616) (neg a != neg b)
theorem mag_nn (a : Int) : 0 ≤ mag a := by unfold mag; split <;> omega
theorem mag_lt (a : Int) [h : F a] : mag a < 170141183460469231731687303715884105728 := by have := h.h; unfold mag; split <;> omega
theorem mulF_F {a b r : Int} (h : mulF a b = .ok r) : F r := by
  unfold mulF at h
  refine tell_F ?_ h
  have := Int.mul_nonneg (mag_nn a) (mag_nn b)
  omega
theorem shr64 (n : Int) : val4 0 (hi (hi2 n)) (lo (hi2 n)) (hi (lo2 n)) = n / 18446744073709551616 := by
  unfold val4; rw [val2_0]; unfold val2 hi lo hi2 lo2; omega
theorem mag_Q (a b : Int) [F a] [F b] : 0 ≤ mag a * mag b ∧ mag a * mag b ≤ 28948022309329048855892746252171976963317496166410141009864396001978282409984 := by
  refine ⟨Int.mul_nonneg (mag_nn a) (mag_nn b), ?_⟩
  have h1 := mag_lt a; have h2 := mag_lt b
  have : mag a * mag b ≤ 170141183460469231731687303715884105728 * 170141183460469231731687303715884105728 := Int.mul_le_mul (by omega) (by omega) (mag_nn b) (by decide)
  omega
theorem mul_tell (a b : Int) [F a] [F b] :
    tell (val4 0 (hi (hi2 (mod4 (val4 (hi (hi2 (val2 (hi (mag a)) (lo (mag a)) * val2 (hi (mag b)) (lo (mag b))))) (lo (hi2 (val2 (hi (mag a)) (lo (mag a)) * val2 (hi (mag b)) (lo (mag b)))))
      (hi (lo2 (val2 (hi (mag a)) (lo (mag a)) * val2 (hi (mag b)) (lo (mag b))))) (lo (lo2 (val2 (hi (mag a)) (lo (mag a)) * val2 (hi (mag b)) (lo (mag b))))) + 9223372036854775808))))
      (lo (hi2 (mod4 (val4 (hi (hi2 (val2 (hi (mag a)) (lo (mag a)) * val2 (hi (mag b)) (lo (mag b))))) (lo (hi2 (val2 (hi (mag a)) (lo (mag a)) * val2 (hi (mag b)) (lo (mag b)))))
      (hi (lo2 (val2 (hi (mag a)) (lo (mag a)) * val2 (hi (mag b)) (lo (mag b))))) (lo (lo2 (val2 (hi (mag a)) (lo (mag a)) * val2 (hi (mag b)) (lo (mag b))))) + 9223372036854775808))))
      (hi (lo2 (mod4 (val4 (hi (hi2 (val2 (hi (mag a)) (lo (mag a)) * val2 (hi (mag b)) (lo (mag b))))) (lo (hi2 (val2 (hi (mag a)) (lo (mag a)) * val2 (hi (mag b)) (lo (mag b)))))
      (hi (lo2 (val2 (hi (mag a)) (lo (mag a)) * val2 (hi (mag b)) (lo (mag b))))) (lo (lo2 (val2 (hi (mag a)) (lo (mag a)) * val2 (hi (mag b)) (lo (mag b))))) + 9223372036854775808))))) (!(neg a == neg b)) = mulF a b := by
  have := mag_Q a b
  rw [val4_of, val2_hi_lo, val2_hi_lo, shr64, mod4_of _ (h := ⟨by omega⟩)]
  rfl
set_option maxHeartbeats 3200000 in
theorem fix_Mul (a b : Int) [F a] [F b] : Gives 82 #[fx a, fx b] (res (mulF a b)) := by
  intro w
  have hq := mag_Q a b
  haveI : Q (val2 (hi (mag a)) (lo (mag a)) * val2 (hi (mag b)) (lo (mag b))) := ⟨by rw [val2_hi_lo, val2_hi_lo]; omega⟩
  clear hq
  go_enter Tryd.func82, Tryd.ntmps82
  go_upto_region 1 with fail
  go_cut [6, 7] (fun s6 s7 wx => Sizes a b (w.heap.size + 1 + 1) w s6 s7 wx)
  case first =>
    go_region_held3 (fun w' => w'.cell? ⟨w.heap.size, 0, none⟩ = some (.int .i64 (hi a)) ∧ w'.cell? ⟨w.heap.size, 1, none⟩ = some (.int .u64 (lo a)) ∧ w'.cell? ⟨w.heap.size + 1, 0, none⟩ = some (.int .i64 (hi b)) ∧ w'.cell? ⟨w.heap.size + 1, 1, none⟩ = some (.int .u64 (lo b))) (simp (maxDischargeDepth := 8) [go_sem, *])
      (first | (go_at_call 119; refine (fix_of _ _).mono ?_; rintro e wn ⟨rfl, hbn⟩; obtain ⟨hcn, hfn, hzn0, hzn1, hzn2, hzn3, hzn4, hzn5, hzn6, hzn7, hzn8⟩ := bcell hbn; (try simp only [World.size_drew] at hcn hfn hzn0 hzn1 hzn2 hzn3 hzn4 hzn5 hzn6 hzn7 hzn8); have hsn := hbn.size; (try simp at hsn); (try have hq0 : w.heap.size < wn.heap.size := by omega); (try have hq1 : w.heap.size + 1 < wn.heap.size := by omega); (try have hq2 : w.heap.size + 1 + 1 < wn.heap.size := by omega); (try have hq3 : w.heap.size + 1 + 1 + 1 < wn.heap.size := by omega); (try have hq4 : w.heap.size + 1 + 1 + 1 + 1 < wn.heap.size := by omega); (try have hq5 : w.heap.size + 1 + 1 + 1 + 1 + 1 < wn.heap.size := by omega); (try have hq6 : w.heap.size + 1 + 1 + 1 + 1 + 1 + 1 < wn.heap.size := by omega); (try have hq7 : w.heap.size + 1 + 1 + 1 + 1 + 1 + 1 + 1 < wn.heap.size := by omega); (try have hggx : gx < wn.heap.size := by omega); (try have hggy : gy < wn.heap.size := by omega); (try have hggz : gz < wn.heap.size := by omega)))
    all_goals (go_wp2_with fail; go_meet; unfold Sizes; exact ⟨_, _, rfl, rfl, by (first | omega | (simp <;> omega)), by (first | omega | (simp <;> omega)), by (first | omega | (simp <;> omega)), by (first | omega | (simp <;> omega)), by (first | omega | (simp <;> omega)), by (repeat (first | (with_reducible exact Below.refl _ _) | (with_reducible assumption) | (with_reducible refine Below.alloc ?_ (by first | (with_reducible exact Nat.le_refl _) | omega | (simp <;> omega)) _) | (with_reducible refine Below.setCell ?_ (by first | (with_reducible exact Nat.le_refl _) | omega | (simp <;> omega)) _) | (with_reducible refine Below.drew ?_) | (with_reducible refine bel_step (by assumption) ?_ (by first | (with_reducible exact Nat.le_refl _) | omega | (simp <;> omega))))), by (simp (maxDischargeDepth := 8) [go_sem, *]; done), by (simp (maxDischargeDepth := 8) [go_sem, *]; done), by (simp (maxDischargeDepth := 8) [go_sem, *]; done), by (simp (maxDischargeDepth := 8) [go_sem, *]; done), by (simp (maxDischargeDepth := 8) [go_sem, *]; done), by (simp (maxDischargeDepth := 8) [go_sem, *]; done), by (simp (maxDischargeDepth := 8) [go_sem, *]; done), by (simp (maxDischargeDepth := 8) [go_sem, *]; done), by (simp (maxDischargeDepth := 8) [go_sem, *]; done), by (simp (maxDischargeDepth := 8) [go_sem, *]; done)⟩)
  case rest =>
    obtain ⟨gx, gy, rfl, rfl, k1, k2, k3, k4, k5, hbx, a0, a1, a2, b0, b1, b2, c0, c1, f0, f1⟩ := hcut
    go_wp2_with fail
    go_region_held3 (fun w' => w'.cell? ⟨gx, 0, none⟩ = some (.int .u64 (hi (mag a))) ∧ w'.cell? ⟨gx, 1, none⟩ = some (.int .u64 (lo (mag a))) ∧ w'.cell? ⟨gx, 2, none⟩ = some (.bool (neg a)) ∧
        w'.cell? ⟨gy, 0, none⟩ = some (.int .u64 (hi (mag b))) ∧ w'.cell? ⟨gy, 1, none⟩ = some (.int .u64 (lo (mag b))) ∧ w'.cell? ⟨gy, 2, none⟩ = some (.bool (neg b)))
      (simp (maxDischargeDepth := 8) [go_sem, *]) (first | (go_at_call 123; refine (limb_Mul _ _ _ _ _).mono ?_; rintro e wn ⟨rfl, hbn⟩; obtain ⟨hcn, hfn, hzn0, hzn1, hzn2, hzn3, hzn4, hzn5, hzn6, hzn7, hzn8⟩ := bcell hbn; (try simp only [World.size_drew] at hcn hfn hzn0 hzn1 hzn2 hzn3 hzn4 hzn5 hzn6 hzn7 hzn8); have hsn := hbn.size; (try simp at hsn); (try have hq0 : w.heap.size < wn.heap.size := by omega); (try have hq1 : w.heap.size + 1 < wn.heap.size := by omega); (try have hq2 : w.heap.size + 1 + 1 < wn.heap.size := by omega); (try have hq3 : w.heap.size + 1 + 1 + 1 < wn.heap.size := by omega); (try have hq4 : w.heap.size + 1 + 1 + 1 + 1 < wn.heap.size := by omega); (try have hq5 : w.heap.size + 1 + 1 + 1 + 1 + 1 < wn.heap.size := by omega); (try have hq6 : w.heap.size + 1 + 1 + 1 + 1 + 1 + 1 < wn.heap.size := by omega); (try have hq7 : w.heap.size + 1 + 1 + 1 + 1 + 1 + 1 + 1 < wn.heap.size := by omega); (try have hggx : gx < wn.heap.size := by omega); (try have hggy : gy < wn.heap.size := by omega); (try have hggz : gz < wn.heap.size := by omega)) | (go_at_call 122; refine (fix_more_63 _ _ _ _ _).mono ?_; rintro e wn ⟨rfl, hbn⟩; obtain ⟨hcn, hfn, hzn0, hzn1, hzn2, hzn3, hzn4, hzn5, hzn6, hzn7, hzn8⟩ := bcell hbn; (try simp only [World.size_drew] at hcn hfn hzn0 hzn1 hzn2 hzn3 hzn4 hzn5 hzn6 hzn7 hzn8); have hsn := hbn.size; (try simp at hsn); (try have hq0 : w.heap.size < wn.heap.size := by omega); (try have hq1 : w.heap.size + 1 < wn.heap.size := by omega); (try have hq2 : w.heap.size + 1 + 1 < wn.heap.size := by omega); (try have hq3 : w.heap.size + 1 + 1 + 1 < wn.heap.size := by omega); (try have hq4 : w.heap.size + 1 + 1 + 1 + 1 < wn.heap.size := by omega); (try have hq5 : w.heap.size + 1 + 1 + 1 + 1 + 1 < wn.heap.size := by omega); (try have hq6 : w.heap.size + 1 + 1 + 1 + 1 + 1 + 1 < wn.heap.size := by omega); (try have hq7 : w.heap.size + 1 + 1 + 1 + 1 + 1 + 1 + 1 < wn.heap.size := by omega); (try have hggx : gx < wn.heap.size := by omega); (try have hggy : gy < wn.heap.size := by omega); (try have hggz : gz < wn.heap.size := by omega)) | (go_at_call 121; refine (limb_Shr64 _ _ _ _ _).mono ?_; rintro e wn ⟨rfl, hbn⟩; obtain ⟨hcn, hfn, hzn0, hzn1, hzn2, hzn3, hzn4, hzn5, hzn6, hzn7, hzn8⟩ := bcell hbn; (try simp only [World.size_drew] at hcn hfn hzn0 hzn1 hzn2 hzn3 hzn4 hzn5 hzn6 hzn7 hzn8); have hsn := hbn.size; (try simp at hsn); (try have hq0 : w.heap.size < wn.heap.size := by omega); (try have hq1 : w.heap.size + 1 < wn.heap.size := by omega); (try have hq2 : w.heap.size + 1 + 1 < wn.heap.size := by omega); (try have hq3 : w.heap.size + 1 + 1 + 1 < wn.heap.size := by omega); (try have hq4 : w.heap.size + 1 + 1 + 1 + 1 < wn.heap.size := by omega); (try have hq5 : w.heap.size + 1 + 1 + 1 + 1 + 1 < wn.heap.size := by omega); (try have hq6 : w.heap.size + 1 + 1 + 1 + 1 + 1 + 1 < wn.heap.size := by omega); (try have hq7 : w.heap.size + 1 + 1 + 1 + 1 + 1 + 1 + 1 < wn.heap.size := by omega); (try have hggx : gx < wn.heap.size := by omega); (try have hggy : gy < wn.heap.size := by omega); (try have hggz : gz < wn.heap.size := by omega)) | (go_at_call 120; refine (fix_told _ _ _ _ _ _).mono ?_; rintro e wn ⟨rfl, hbn⟩; obtain ⟨hcn, hfn, hzn0, hzn1, hzn2, hzn3, hzn4, hzn5, hzn6, hzn7, hzn8⟩ := bcell hbn; (try simp only [World.size_drew] at hcn hfn hzn0 hzn1 hzn2 hzn3 hzn4 hzn5 hzn6 hzn7 hzn8); have hsn := hbn.size; (try simp at hsn); (try have hq0 : w.heap.size < wn.heap.size := by omega); (try have hq1 : w.heap.size + 1 < wn.heap.size := by omega); (try have hq2 : w.heap.size + 1 + 1 < wn.heap.size := by omega); (try have hq3 : w.heap.size + 1 + 1 + 1 < wn.heap.size := by omega); (try have hq4 : w.heap.size + 1 + 1 + 1 + 1 < wn.heap.size := by omega); (try have hq5 : w.heap.size + 1 + 1 + 1 + 1 + 1 < wn.heap.size := by omega); (try have hq6 : w.heap.size + 1 + 1 + 1 + 1 + 1 + 1 < wn.heap.size := by omega); (try have hq7 : w.heap.size + 1 + 1 + 1 + 1 + 1 + 1 + 1 < wn.heap.size := by omega); (try have hggx : gx < wn.heap.size := by omega); (try have hggy : gy < wn.heap.size := by omega); (try have hggz : gz < wn.heap.size := by omega)))
    all_goals go_wp2_with fail
    all_goals (rw [← mul_tell a b])
    all_goals (simp (maxDischargeDepth := 8) [bodyPost, results, Tryd.results82, go_sem, *]; try (repeat (first | (with_reducible exact Below.refl _ _) | (with_reducible assumption) | (with_reducible refine Below.alloc ?_ (by first | (with_reducible exact Nat.le_refl _) | omega | (simp <;> omega)) _) | (with_reducible refine Below.setCell ?_ (by first | (with_reducible exact Nat.le_refl _) | omega | (simp <;> omega)) _) | (with_reducible refine Below.drew ?_) | (with_reducible refine bel_step (by assumption) ?_ (by first | (with_reducible exact Nat.le_refl _) | omega | (simp <;> omega))))))
set_option maxHeartbeats 800000 in
theorem fix_Int (n : Int) (h : -9223372036854775807 ≤ n ∧ n ≤ 9223372036854775807) : Gives 64 #[.int .i64 n] (fx (n * 18446744073709551616)) := by
  intro w
  have e1 : hi (n * 18446744073709551616) = n := by unfold hi; omega
  have e2 : lo (n * 18446744073709551616) = 0 := by unfold lo; omega
  unfold fx
  rw [e1, e2]
  clear e1 e2
  go_enter Tryd.func64, Tryd.ntmps64
  go_wp2
  rw [show max n (-9223372036854775807) = n from by omega]
  (simp (maxDischargeDepth := 8) [bodyPost, results, Tryd.results64, go_sem, *]; try (repeat (first | (with_reducible exact Below.refl _ _) | (with_reducible assumption) | (with_reducible refine Below.alloc ?_ (by first | (with_reducible exact Nat.le_refl _) | omega | (simp <;> omega)) _) | (with_reducible refine Below.setCell ?_ (by first | (with_reducible exact Nat.le_refl _) | omega | (simp <;> omega)) _) | (with_reducible refine Below.drew ?_) | (with_reducible refine bel_step (by assumption) ?_ (by first | (with_reducible exact Nat.le_refl _) | omega | (simp <;> omega))))))
set_option maxHeartbeats 3200000 in
theorem fix_Sub (a b : Int) [F a] [F b] : Gives 83 #[fx a, fx b] (res (subF a b)) := by
  intro w
  unfold subF
  go_enter Tryd.func83, Tryd.ntmps83
  go_wp2_with fail
  go_region_held3 (fun w' => w'.cell? ⟨w.heap.size, 0, none⟩ = some (.int .i64 (hi a)) ∧ w'.cell? ⟨w.heap.size, 1, none⟩ = some (.int .u64 (lo a)) ∧ w'.cell? ⟨w.heap.size + 1, 0, none⟩ = some (.int .i64 (hi b)) ∧ w'.cell? ⟨w.heap.size + 1, 1, none⟩ = some (.int .u64 (lo b)))
    (simp (maxDischargeDepth := 8) [go_sem, *]) (first | (go_at_call 107; refine (fix_Neg _ _).mono ?_; rintro e wn ⟨rfl, hbn⟩; obtain ⟨hcn, hfn, hzn0, hzn1, hzn2, hzn3, hzn4, hzn5, hzn6, hzn7, hzn8⟩ := bcell hbn; (try simp only [World.size_drew] at hcn hfn hzn0 hzn1 hzn2 hzn3 hzn4 hzn5 hzn6 hzn7 hzn8); have hsn := hbn.size; (try simp at hsn); (try have hq0 : w.heap.size < wn.heap.size := by omega); (try have hq1 : w.heap.size + 1 < wn.heap.size := by omega); (try have hq2 : w.heap.size + 1 + 1 < wn.heap.size := by omega); (try have hq3 : w.heap.size + 1 + 1 + 1 < wn.heap.size := by omega); (try have hq4 : w.heap.size + 1 + 1 + 1 + 1 < wn.heap.size := by omega); (try have hq5 : w.heap.size + 1 + 1 + 1 + 1 + 1 < wn.heap.size := by omega); (try have hq6 : w.heap.size + 1 + 1 + 1 + 1 + 1 + 1 < wn.heap.size := by omega); (try have hq7 : w.heap.size + 1 + 1 + 1 + 1 + 1 + 1 + 1 < wn.heap.size := by omega); (try have hggx : gx < wn.heap.size := by omega); (try have hggy : gy < wn.heap.size := by omega); (try have hggz : gz < wn.heap.size := by omega)) | (go_at_call 115; refine (fix_Add _ _ _).mono ?_; rintro e wn ⟨rfl, hbn⟩; obtain ⟨hcn, hfn, hzn0, hzn1, hzn2, hzn3, hzn4, hzn5, hzn6, hzn7, hzn8⟩ := bcell hbn; (try simp only [World.size_drew] at hcn hfn hzn0 hzn1 hzn2 hzn3 hzn4 hzn5 hzn6 hzn7 hzn8); have hsn := hbn.size; (try simp at hsn); (try have hq0 : w.heap.size < wn.heap.size := by omega); (try have hq1 : w.heap.size + 1 < wn.heap.size := by omega); (try have hq2 : w.heap.size + 1 + 1 < wn.heap.size := by omega); (try have hq3 : w.heap.size + 1 + 1 + 1 < wn.heap.size := by omega); (try have hq4 : w.heap.size + 1 + 1 + 1 + 1 < wn.heap.size := by omega); (try have hq5 : w.heap.size + 1 + 1 + 1 + 1 + 1 < wn.heap.size := by omega); (try have hq6 : w.heap.size + 1 + 1 + 1 + 1 + 1 + 1 < wn.heap.size := by omega); (try have hq7 : w.heap.size + 1 + 1 + 1 + 1 + 1 + 1 + 1 < wn.heap.size := by omega); (try have hggx : gx < wn.heap.size := by omega); (try have hggy : gy < wn.heap.size := by omega); (try have hggz : gz < wn.heap.size := by omega)))
  all_goals go_wp2_with fail
  all_goals (simp (maxDischargeDepth := 8) [bodyPost, results, Tryd.results83, go_sem, *]; try (repeat (first | (with_reducible exact Below.refl _ _) | (with_reducible assumption) | (with_reducible refine Below.alloc ?_ (by first | (with_reducible exact Nat.le_refl _) | omega | (simp <;> omega)) _) | (with_reducible refine Below.setCell ?_ (by first | (with_reducible exact Nat.le_refl _) | omega | (simp <;> omega)) _) | (with_reducible refine Below.drew ?_) | (with_reducible refine bel_step (by assumption) ?_ (by first | (with_reducible exact Nat.le_refl _) | omega | (simp <;> omega))))))
end Go.Proofs.YtpbklojdmkpkcaaDoor
