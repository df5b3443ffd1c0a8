/- limb: products. -/
import Derived.Test.YtpbklojdmkpkcaaDoorLimbC
namespace Go.Proofs.YtpbklojdmkpkcaaDoor
open Go.RowKit
set_option linter.unusedSimpArgs false
set_option linter.unusedVariables false
def mh (x y : Int) : Int := x * y / 18446744073709551616
def ml (x y : Int) : Int := x * y % 18446744073709551616
theorem prod_bd (x y : Int) [hx : U x] [hy : U y] : 0 ≤ x * y ∧ x * y ≤ 340282366920938463426481119284349108225 := by
  have h1 := hx.h; have h2 := hy.h
  refine ⟨Int.mul_nonneg h1.1 h2.1, ?_⟩
  have : x * y ≤ 18446744073709551615 * 18446744073709551615 := Int.mul_le_mul (by omega) (by omega) h2.1 (by decide)
  omega
instance (x y : Int) [hx : U x] [hy : U y] : U (mh x y) := ⟨by have := prod_bd x y; unfold mh; omega⟩
instance (x y : Int) [hx : U x] [hy : U y] : U (ml x y) := ⟨by have := prod_bd x y; unfold ml; omega⟩
theorem bits_Mul64 (x y : Int) [hx : U x] [hy : U y] : ∀ w : World, Calls Tryd.prog 148 #[.int .u64 x, .int .u64 y] w fun e w' => e = .returned (.tuple #[.int .u64 (mh x y), .int .u64 (ml x y)]) ∧ w' = w := by
  intro w
  have h1 := hx.h; have h2 := hy.h
  obtain ⟨x, rfl⟩ := Int.eq_ofNat_of_zero_le h1.1
  obtain ⟨y, rfl⟩ := Int.eq_ofNat_of_zero_le h2.1
  refine (Tryd.bits_Mul64 x y (by omega) (by omega) w).mono ?_
  rintro e w' ⟨rfl, rfl⟩
  refine ⟨?_, rfl⟩
  have e1 : ((x * y / 18446744073709551616 : Nat) : Int) = mh x y := by unfold mh; rw [Int.natCast_ediv, Int.natCast_mul]; rfl
  have e2 : ((x * y % 18446744073709551616 : Nat) : Int) = ml x y := by unfold ml; rw [Int.natCast_emod, Int.natCast_mul]; rfl
  rw [e1, e2]
attribute [local go_sem] idx2_0 idx2_1 wrapU
theorem run_add64_0' (x y : Int) [hx : U x] [hy : U y] (w : World) :
    (callFunc 149 #[.int .u64 x, .int .u64 y, .int .u64 0]).run Tryd.prog w =
      .ok (.value (.tuple #[.int .u64 (sum x y 0), .int .u64 (car x y 0)])) w := run_add64_0 x y hx hy w
theorem car_0 (x y : Int) [hx : U x] [hy : U y] : U (car x y 0) := ⟨by have := hx.h; have := hy.h; unfold car; omega⟩
attribute [local instance] car_0
/-- One step of a product: lower word, and carry. -/
def Lo (x y c a : Int) : Int := (x * y + c + a) % 18446744073709551616
def Hi (x y c a : Int) : Int := (x * y + c + a) / 18446744073709551616
theorem mac_lo (x y c a : Int) : sum a (sum (ml x y) c 0) 0 = Lo x y c a := by unfold sum ml Lo; omega
theorem mac_hi (x y c a : Int) [hx : U x] [hy : U y] [hc : U c] [ha : U a] : IntKind.u64.wrap (IntKind.u64.wrap (mh x y + car (ml x y) c 0) + car a (sum (ml x y) c 0) 0) = Hi x y c a := by
  have := prod_bd x y; have := hc.h; have := ha.h
  rw [IntKind.wrap_u64, IntKind.wrap_u64]; unfold mh car ml sum Hi; omega
instance (x y c a : Int) : U (Lo x y c a) := ⟨by unfold Lo; omega⟩
instance (x y c a : Int) [hx : U x] [hy : U y] [hc : U c] [ha : U a] : U (Hi x y c a) := ⟨by have := prod_bd x y; have := hc.h; have := ha.h; unfold Hi; omega⟩
theorem Lo_Hi (x y c a : Int) : Hi x y c a * 18446744073709551616 + Lo x y c a = x * y + c + a := by unfold Hi Lo; omega
theorem product (x1 x0 y1 y0 : Int) : val4 (Hi x1 y1 (Hi x1 y0 0 (Lo x0 y1 (Hi x0 y0 0 0) 0)) (Hi x0 y1 (Hi x0 y0 0 0) 0)) (Lo x1 y1 (Hi x1 y0 0 (Lo x0 y1 (Hi x0 y0 0 0) 0)) (Hi x0 y1 (Hi x0 y0 0 0) 0))
    (Lo x1 y0 0 (Lo x0 y1 (Hi x0 y0 0 0) 0)) (Lo x0 y0 0 0) = val2 x1 x0 * val2 y1 y0 := by
  have e1 := Lo_Hi x0 y0 0 0
  generalize Hi x0 y0 0 0 = c1 at *
  have e2 := Lo_Hi x0 y1 c1 0
  generalize Hi x0 y1 c1 0 = c2 at *
  generalize Lo x0 y1 c1 0 = t1 at *
  have e3 := Lo_Hi x1 y0 0 t1
  generalize Hi x1 y0 0 t1 = c3 at *
  have e4 := Lo_Hi x1 y1 c3 c2
  have e5 : val2 x1 x0 * val2 y1 y0 = x1 * y1 * 340282366920938463463374607431768211456 + (x1 * y0 + x0 * y1) * 18446744073709551616 + x0 * y0 := by
    unfold val2
    rw [Int.add_mul, Int.mul_add, Int.mul_add]
    have a1 : x1 * 18446744073709551616 * (y1 * 18446744073709551616) = x1 * y1 * 340282366920938463463374607431768211456 := by
      rw [Int.mul_assoc, ← Int.mul_assoc 18446744073709551616, Int.mul_comm 18446744073709551616 y1, Int.mul_assoc y1, ← Int.mul_assoc x1]; rfl
    have a2 : x1 * 18446744073709551616 * y0 = x1 * y0 * 18446744073709551616 := by rw [Int.mul_right_comm]
    have a3 : x0 * (y1 * 18446744073709551616) = x0 * y1 * 18446744073709551616 := by rw [Int.mul_assoc]
    rw [a1, a2, a3]; omega
  rw [e5]
  unfold val4 val2
  omega
theorem words4 (P a b c d : Int) [U a] [U b] [U c] [U d] (h : val4 a b c d = P) : (a = hi (hi2 P) ∧ b = lo (hi2 P) ∧ c = hi (lo2 P) ∧ d = lo (lo2 P)) := by
  subst h
  rw [hi2_val4, lo2_val4, hi_val2, lo_val2, hi_val2, lo_val2]
  exact ⟨rfl, rfl, rfl, rfl⟩
attribute [local go_sem] mac_lo mac_hi

set_option maxRecDepth 100000 in
set_option maxHeartbeats 1600000 in
theorem limb_Mul (x1 x0 y1 y0 : Int) [U x1] [U x0] [U y1] [U y0] : Gives 123 #[.agg #[.int .u64 x1, .int .u64 x0], .agg #[.int .u64 y1, .int .u64 y0]] (four (val2 x1 x0 * val2 y1 y0)) := by
  intro w
  go_enter Tryd.func123, Tryd.ntmps123
  go_wp2_with fail
  refine wp_loop_rounds 3 ?_
  rw [rounds_succ]
  go_wp2_with fail
  refine wp_loop_rounds 3 ?_
  rw [rounds_succ]
  go_wp2_with (first | simp only [run_add64_0'] | (go_at_call 148; refine (bits_Mul64 _ _ _).mono ?_; rintro e wn ⟨rfl, rfl⟩))
  rw [rounds_succ]
  go_wp2_with (first | simp only [run_add64_0'] | (go_at_call 148; refine (bits_Mul64 _ _ _).mono ?_; rintro e wn ⟨rfl, rfl⟩))
  rw [rounds_succ]
  go_wp2_with (first | simp only [run_add64_0'] | (go_at_call 148; refine (bits_Mul64 _ _ _).mono ?_; rintro e wn ⟨rfl, rfl⟩))
  rw [rounds_succ]
  go_wp2_with fail
  refine wp_loop_rounds 3 ?_
  rw [rounds_succ]
  go_wp2_with (first | simp only [run_add64_0'] | (go_at_call 148; refine (bits_Mul64 _ _ _).mono ?_; rintro e wn ⟨rfl, rfl⟩))
  rw [rounds_succ]
  go_wp2_with (first | simp only [run_add64_0'] | (go_at_call 148; refine (bits_Mul64 _ _ _).mono ?_; rintro e wn ⟨rfl, rfl⟩))
  rw [rounds_succ]
  go_wp2_with fail
  rw [rounds_succ]
  go_wp2_with (go_at_call 147; refine (limb_four _ _ _ _ _).mono ?_; rintro e wn ⟨rfl, hbn⟩; obtain ⟨hcn, hfn, hzn0, hzn1, hzn2, hzn3, hzn4, hzn5, hzn6, hzn7, hzn8⟩ := bcell hbn; (try simp only [World.size_drew] at hcn hfn hzn0 hzn1 hzn2 hzn3 hzn4 hzn5 hzn6 hzn7 hzn8); have hsn := hbn.size; (try simp at hsn); (try have hq0 : w.heap.size < wn.heap.size := by omega); (try have hq1 : w.heap.size + 1 < wn.heap.size := by omega); (try have hq2 : w.heap.size + 1 + 1 < wn.heap.size := by omega); (try have hq3 : w.heap.size + 1 + 1 + 1 < wn.heap.size := by omega); (try have hq4 : w.heap.size + 1 + 1 + 1 + 1 < wn.heap.size := by omega); (try have hq5 : w.heap.size + 1 + 1 + 1 + 1 + 1 < wn.heap.size := by omega); (try have hq6 : w.heap.size + 1 + 1 + 1 + 1 + 1 + 1 < wn.heap.size := by omega); (try have hq7 : w.heap.size + 1 + 1 + 1 + 1 + 1 + 1 + 1 < wn.heap.size := by omega); (try have hggx : gx < wn.heap.size := by omega); (try have hggy : gy < wn.heap.size := by omega); (try have hggz : gz < wn.heap.size := by omega))
  obtain ⟨h1, h2, h3, h4⟩ := words4 _ _ _ _ _ (product x1 x0 y1 y0)
  unfold four
  rw [← h1, ← h2, ← h3, ← h4]
  clear h1 h2 h3 h4
  (simp (maxDischargeDepth := 8) [bodyPost, results, Tryd.results123, go_sem, *]; try (repeat (first | (with_reducible exact Below.refl _ _) | (with_reducible assumption) | (with_reducible refine Below.alloc ?_ (by first | (with_reducible exact Nat.le_refl _) | omega | (simp <;> omega)) _) | (with_reducible refine Below.setCell ?_ (by first | (with_reducible exact Nat.le_refl _) | omega | (simp <;> omega)) _) | (with_reducible refine Below.drew ?_) | (with_reducible refine bel_step (by assumption) ?_ (by first | (with_reducible exact Nat.le_refl _) | omega | (simp <;> omega))))))
end Go.Proofs.YtpbklojdmkpkcaaDoor
