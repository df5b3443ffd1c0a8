import Derived.Deep.RegionHeld3
import Derived.Deep.DeepCutAuto
import Derived.Test.YtpbklojdmkpkcaaDoorG1
/- fix: what a size tells; sums, products, halves. -/
namespace Go.Proofs.YtpbklojdmkpkcaaDoor
open Go.RowKit
set_option linter.unusedSimpArgs false
set_option linter.unusedVariables false

theorem blAux : ∀ (f x : Nat), x < 2 ^ f → Lib.bitLenAux f x ≤ f ∧ x < 2 ^ Lib.bitLenAux f x ∧ (x ≠ 0 → 1 ≤ Lib.bitLenAux f x ∧ 2 ^ (Lib.bitLenAux f x - 1) ≤ x)
  | 0, x, h => by
    have : x = 0 := by simp at h; exact h
    subst this; simp [Lib.bitLenAux]
  | f + 1, x, h => by
    by_cases h0 : x = 0
    · subst h0; simp [Lib.bitLenAux]
    · have e : Lib.bitLenAux (f + 1) x = 1 + Lib.bitLenAux f (x / 2) := by simp [Lib.bitLenAux, h0]
      rw [e]
      obtain ⟨i1, i2, i3⟩ := blAux f (x / 2) (by rw [Nat.pow_succ] at h; omega)
      generalize Lib.bitLenAux f (x / 2) = k at *
      refine ⟨by omega, ?_, fun _ => ⟨by omega, ?_⟩⟩
      · rw [Nat.add_comm, Nat.pow_succ]; omega
      · rw [Nat.add_sub_cancel_left]
        by_cases h1 : x / 2 = 0
        · have : k = 0 := by
            rcases Nat.eq_zero_or_pos k with hk | hk
            · exact hk
            · exfalso
              have hx1 : x = 1 := by omega
              subst hx1
              have : Lib.bitLenAux (f + 1) 1 = 1 + Lib.bitLenAux f 0 := by simp [Lib.bitLenAux]
              have hz : Lib.bitLenAux f 0 = 0 := by cases f <;> simp [Lib.bitLenAux]
              rw [hz] at this
              omega
          subst this; simp; omega
        · obtain ⟨j1, j2⟩ := i3 h1
          obtain ⟨m, rfl⟩ : ∃ m, k = m + 1 := ⟨k - 1, by omega⟩
          simp only [Nat.add_sub_cancel] at j2
          rw [Nat.pow_succ]; omega
theorem bl_bd (x : Int) [h : U x] : 0 ≤ bl x ∧ bl x ≤ 64 ∧ (63 < bl x ↔ 9223372036854775808 ≤ x) ∧ (x ≠ 0 → 1 ≤ bl x) := by
  have hx := h.h
  unfold bl Lib.bitLen
  obtain ⟨s1, s2, s3⟩ := blAux 64 x.toNat (by omega)
  have s4 : x.toNat = 0 → Lib.bitLenAux 64 x.toNat = 0 := fun e => by rw [e]; rfl
  generalize Lib.bitLenAux 64 x.toNat = k at *
  refine ⟨by omega, by omega, ?_, fun h0 => by have := (s3 (by omega)).1; omega⟩
  constructor
  · intro hk
    have : k = 64 := by omega
    subst this
    have h0 : x.toNat ≠ 0 := fun e => by have := s4 e; omega
    have := (s3 h0).2
    omega
  · intro hk
    rcases Nat.lt_or_ge 63 k with h1 | h1
    · omega
    · exfalso
      have : 2 ^ k ≤ 2 ^ 63 := Nat.pow_le_pow_right (by decide) h1
      omega
theorem wrap64_in (x : Int) (h : -9223372036854775808 ≤ x ∧ x < 9223372036854775808) : wrap64 x = x := by rw [wrap64_is]; omega
theorem len4_127 (a b c d : Int) [ha : U a] [hb : U b] [hc : U c] [hd : U d] : 127 < len4 a b c d ↔ 170141183460469231731687303715884105728 ≤ val4 a b c d := by
  have ka := bl_bd a; have kb := bl_bd b; have kc := bl_bd c; have kd := bl_bd d
  have := ha.h; have := hb.h; have := hc.h; have := hd.h
  unfold len4 val4 val2
  split
  · rename_i h; have := ka.2.2.2 h; rw [wrap64_in _ (by omega)]; omega
  · split
    · rename_i h; have := kb.2.2.2 h; rw [wrap64_in _ (by omega)]; omega
    · split
      · rw [wrap64_in _ (by omega)]; omega
      · split
        · rw [wrap64_in _ (by omega)]; omega
        · omega

/-- A result with an error: the number (nought beside an error), and the error's number. -/
def valF : Except Int Int → Int
  | .ok r => r
  | .error _ => 0
def errF : Except Int Int → Int
  | .ok _ => 0
  | .error e => e
abbrev res (x : Except Int Int) : Value := .tuple #[fx (valF x), .int .i64 (errF x)]
theorem valF_ok (r : Int) : valF (.ok r) = r := rfl
theorem valF_error (r : Int) : valF (.error r) = 0 := rfl
theorem errF_ok (r : Int) : errF (.ok r) = 0 := rfl
theorem errF_error (r : Int) : errF (.error r) = r := rfl
theorem hi_0 : hi 0 = 0 := by decide
theorem lo_0 : lo 0 = 0 := by decide
theorem res_ok (r : Int) : res (.ok r) = .tuple #[fx r, .int .i64 0] := rfl
theorem res_error (e : Int) : res (.error e) = .tuple #[.agg #[.int .i64 0, .int .u64 0], .int .i64 e] := by unfold res fx; rw [valF_error, errF_error, hi_0, lo_0]
/-- What a size tells: the number, if there is one. -/
def tell (n : Int) (b : Bool) : Except Int Int := if 170141183460469231731687303715884105728 ≤ n then .error 3 else .ok (bif b then -n else n)
theorem tell_F {n : Int} {b : Bool} (h0 : 0 ≤ n) {r : Int} (h : tell n b = .ok r) : F r := by
  unfold tell at h; split at h
  · cases h
  · cases h; cases b <;> exact ⟨by simp; omega⟩
theorem ofSize_tell (a b c d : Int) (s : Bool) [ha : U a] [hb : U b] [hc : U c] [hd : U d] (h : val4 a b c d < 170141183460469231731687303715884105728) :
    ofSize (val2 c d) s = bif s then - val4 a b c d else val4 a b c d := by
  have := ha.h; have := hb.h; have := hc.h; have := hd.h
  have e : val4 a b c d = val2 c d := by unfold val4 val2 at *; omega
  rw [e] at h ⊢
  have : 0 ≤ val2 c d := by unfold val2; omega
  unfold ofSize
  cases s
  · simp only [cond_false]; exact signed_of _ (h := ⟨by omega⟩)
  · simp only [cond_true]; exact signed_of _ (h := ⟨by omega⟩)

set_option maxHeartbeats 800000 in
theorem fix_told (a b c d : Int) (s : Bool) [U a] [U b] [U c] [U d] : Gives 120 #[.agg #[.int .u64 a, .int .u64 b, .int .u64 c, .int .u64 d], .bool s] (res (tell (val4 a b c d) s)) := by
  intro w
  have hl := len4_127 a b c d
  by_cases h : 170141183460469231731687303715884105728 ≤ val4 a b c d
  · have h1 := hl.2 h
    have e : tell (val4 a b c d) s = .error 3 := if_pos h
    rw [e, res_error]
    clear h e hl
    go_enter Tryd.func120, Tryd.ntmps120
    go_wp2_with (first | (go_at_call 145; refine (limb_Len _ _ _ _ _).mono ?_; rintro e wn ⟨rfl, hbn⟩; obtain ⟨hcn, hfn, hzn0, hzn1, hzn2, hzn3, hzn4, hzn5, hzn6, hzn7, hzn8⟩ := bcell hbn; (try simp only [World.size_drew] at hcn hfn hzn0 hzn1 hzn2 hzn3 hzn4 hzn5 hzn6 hzn7 hzn8); have hsn := hbn.size; (try simp at hsn); (try have hq0 : w.heap.size < wn.heap.size := by omega); (try have hq1 : w.heap.size + 1 < wn.heap.size := by omega); (try have hq2 : w.heap.size + 1 + 1 < wn.heap.size := by omega); (try have hq3 : w.heap.size + 1 + 1 + 1 < wn.heap.size := by omega); (try have hq4 : w.heap.size + 1 + 1 + 1 + 1 < wn.heap.size := by omega); (try have hq5 : w.heap.size + 1 + 1 + 1 + 1 + 1 < wn.heap.size := by omega); (try have hq6 : w.heap.size + 1 + 1 + 1 + 1 + 1 + 1 < wn.heap.size := by omega); (try have hq7 : w.heap.size + 1 + 1 + 1 + 1 + 1 + 1 + 1 < wn.heap.size := by omega); (try have hggx : gx < wn.heap.size := by omega); (try have hggy : gy < wn.heap.size := by omega); (try have hggz : gz < wn.heap.size := by omega)) | (go_at_call 140; refine (fix_fix _ _ _ _).mono ?_; rintro e wn ⟨rfl, hbn⟩; obtain ⟨hcn, hfn, hzn0, hzn1, hzn2, hzn3, hzn4, hzn5, hzn6, hzn7, hzn8⟩ := bcell hbn; (try simp only [World.size_drew] at hcn hfn hzn0 hzn1 hzn2 hzn3 hzn4 hzn5 hzn6 hzn7 hzn8); have hsn := hbn.size; (try simp at hsn); (try have hq0 : w.heap.size < wn.heap.size := by omega); (try have hq1 : w.heap.size + 1 < wn.heap.size := by omega); (try have hq2 : w.heap.size + 1 + 1 < wn.heap.size := by omega); (try have hq3 : w.heap.size + 1 + 1 + 1 < wn.heap.size := by omega); (try have hq4 : w.heap.size + 1 + 1 + 1 + 1 < wn.heap.size := by omega); (try have hq5 : w.heap.size + 1 + 1 + 1 + 1 + 1 < wn.heap.size := by omega); (try have hq6 : w.heap.size + 1 + 1 + 1 + 1 + 1 + 1 < wn.heap.size := by omega); (try have hq7 : w.heap.size + 1 + 1 + 1 + 1 + 1 + 1 + 1 < wn.heap.size := by omega); (try have hggx : gx < wn.heap.size := by omega); (try have hggy : gy < wn.heap.size := by omega); (try have hggz : gz < wn.heap.size := by omega)))
    (simp (maxDischargeDepth := 8) [bodyPost, results, Tryd.results120, go_sem, *]; try (repeat (first | (with_reducible exact Below.refl _ _) | (with_reducible assumption) | (with_reducible refine Below.alloc ?_ (by first | (with_reducible exact Nat.le_refl _) | omega | (simp <;> omega)) _) | (with_reducible refine Below.setCell ?_ (by first | (with_reducible exact Nat.le_refl _) | omega | (simp <;> omega)) _) | (with_reducible refine Below.drew ?_) | (with_reducible refine bel_step (by assumption) ?_ (by first | (with_reducible exact Nat.le_refl _) | omega | (simp <;> omega))))))
  · have h1 : ¬ 127 < len4 a b c d := fun hh => h (hl.1 hh)
    have e : tell (val4 a b c d) s = .ok (bif s then - val4 a b c d else val4 a b c d) := if_neg h
    rw [e, res_ok, ← ofSize_tell a b c d s (by omega)]
    clear h e hl
    go_enter Tryd.func120, Tryd.ntmps120
    go_wp2_with (first | (go_at_call 145; refine (limb_Len _ _ _ _ _).mono ?_; rintro e wn ⟨rfl, hbn⟩; obtain ⟨hcn, hfn, hzn0, hzn1, hzn2, hzn3, hzn4, hzn5, hzn6, hzn7, hzn8⟩ := bcell hbn; (try simp only [World.size_drew] at hcn hfn hzn0 hzn1 hzn2 hzn3 hzn4 hzn5 hzn6 hzn7 hzn8); have hsn := hbn.size; (try simp at hsn); (try have hq0 : w.heap.size < wn.heap.size := by omega); (try have hq1 : w.heap.size + 1 < wn.heap.size := by omega); (try have hq2 : w.heap.size + 1 + 1 < wn.heap.size := by omega); (try have hq3 : w.heap.size + 1 + 1 + 1 < wn.heap.size := by omega); (try have hq4 : w.heap.size + 1 + 1 + 1 + 1 < wn.heap.size := by omega); (try have hq5 : w.heap.size + 1 + 1 + 1 + 1 + 1 < wn.heap.size := by omega); (try have hq6 : w.heap.size + 1 + 1 + 1 + 1 + 1 + 1 < wn.heap.size := by omega); (try have hq7 : w.heap.size + 1 + 1 + 1 + 1 + 1 + 1 + 1 < wn.heap.size := by omega); (try have hggx : gx < wn.heap.size := by omega); (try have hggy : gy < wn.heap.size := by omega); (try have hggz : gz < wn.heap.size := by omega)) | (go_at_call 140; refine (fix_fix _ _ _ _).mono ?_; rintro e wn ⟨rfl, hbn⟩; obtain ⟨hcn, hfn, hzn0, hzn1, hzn2, hzn3, hzn4, hzn5, hzn6, hzn7, hzn8⟩ := bcell hbn; (try simp only [World.size_drew] at hcn hfn hzn0 hzn1 hzn2 hzn3 hzn4 hzn5 hzn6 hzn7 hzn8); have hsn := hbn.size; (try simp at hsn); (try have hq0 : w.heap.size < wn.heap.size := by omega); (try have hq1 : w.heap.size + 1 < wn.heap.size := by omega); (try have hq2 : w.heap.size + 1 + 1 < wn.heap.size := by omega); (try have hq3 : w.heap.size + 1 + 1 + 1 < wn.heap.size := by omega); (try have hq4 : w.heap.size + 1 + 1 + 1 + 1 < wn.heap.size := by omega); (try have hq5 : w.heap.size + 1 + 1 + 1 + 1 + 1 < wn.heap.size := by omega); (try have hq6 : w.heap.size + 1 + 1 + 1 + 1 + 1 + 1 < wn.heap.size := by omega); (try have hq7 : w.heap.size + 1 + 1 + 1 + 1 + 1 + 1 + 1 < wn.heap.size := by omega); (try have hggx : gx < wn.heap.size := by omega); (try have hggy : gy < wn.heap.size := by omega); (try have hggz : gz < wn.heap.size := by omega)))
    (simp (maxDischargeDepth := 8) [bodyPost, results, Tryd.results120, go_sem, *]; try (repeat (first | (with_reducible exact Below.refl _ _) | (with_reducible assumption) | (with_reducible refine Below.alloc ?_ (by first | (with_reducible exact Nat.le_refl _) | omega | (simp <;> omega)) _) | (with_reducible refine Below.setCell ?_ (by first | (with_reducible exact Nat.le_refl _) | omega | (simp <;> omega)) _) | (with_reducible refine Below.drew ?_) | (with_reducible refine bel_step (by assumption) ?_ (by first | (with_reducible exact Nat.le_refl _) | omega | (simp <;> omega))))))
end Go.Proofs.YtpbklojdmkpkcaaDoor
/- fix: one more; sums, products, halves. -/
namespace Go.Proofs.YtpbklojdmkpkcaaDoor
open Go.RowKit
set_option linter.unusedSimpArgs false
set_option linter.unusedVariables false
instance : U 9223372036854775808 := ⟨by decide⟩
theorem more_parts (a b c d v : Int) [ha : U a] [hb : U b] [hc : U c] [hd : U d] [hv : U v] :
    lo2 (mod4 (val4 a b c d + v)) = mod2 (val2 c d + val2 0 v) ∧
    (over2 (val2 c d + val2 0 v) = false → hi2 (mod4 (val4 a b c d + v)) = mod2 (val2 a b + val2 0 0)) ∧
    (over2 (val2 c d + val2 0 v) = true → hi2 (mod4 (val4 a b c d + v)) = mod2 (val2 (hi (mod2 (val2 a b + val2 0 0))) (lo (mod2 (val2 a b + val2 0 0))) + val2 0 1)) := by
  have := ha.h; have := hb.h; have := hc.h; have := hd.h; have := hv.h
  rw [val2_hi_lo]
  refine ⟨?_, fun h => ?_, fun h => ?_⟩
  · unfold lo2 mod4 mod2 val4 val2; omega
  · have h := of_decide_eq_false h; unfold hi2 mod4 mod2; unfold val4 val2 at *; omega
  · have h := of_decide_eq_true h; unfold hi2 mod4 mod2; unfold val4 val2 at *; omega
set_option maxHeartbeats 800000 in
theorem fix_more_63 (a b c d : Int) [U a] [U b] [U c] [U d] : Gives 122 #[.agg #[.int .u64 a, .int .u64 b, .int .u64 c, .int .u64 d], .int .i64 63] (four (mod4 (val4 a b c d + 9223372036854775808))) := by
  intro w
  obtain ⟨e1, e2, e3⟩ := more_parts a b c d 9223372036854775808
  unfold four
  rw [e1]
  cases h : over2 (val2 c d + val2 0 9223372036854775808)
  · rw [e2 h]
    clear e1 e2 e3
    go_enter Tryd.func122, Tryd.ntmps122
    go_wp2_with (first | (go_at_call 124; refine (fix_wide _ _ _).mono ?_; rintro e wn ⟨rfl, hbn⟩; obtain ⟨hcn, hfn, hzn0, hzn1, hzn2, hzn3, hzn4, hzn5, hzn6, hzn7, hzn8⟩ := bcell hbn; (try simp only [World.size_drew] at hcn hfn hzn0 hzn1 hzn2 hzn3 hzn4 hzn5 hzn6 hzn7 hzn8); have hsn := hbn.size; (try simp at hsn); (try have hq0 : w.heap.size < wn.heap.size := by omega); (try have hq1 : w.heap.size + 1 < wn.heap.size := by omega); (try have hq2 : w.heap.size + 1 + 1 < wn.heap.size := by omega); (try have hq3 : w.heap.size + 1 + 1 + 1 < wn.heap.size := by omega); (try have hq4 : w.heap.size + 1 + 1 + 1 + 1 < wn.heap.size := by omega); (try have hq5 : w.heap.size + 1 + 1 + 1 + 1 + 1 < wn.heap.size := by omega); (try have hq6 : w.heap.size + 1 + 1 + 1 + 1 + 1 + 1 < wn.heap.size := by omega); (try have hq7 : w.heap.size + 1 + 1 + 1 + 1 + 1 + 1 + 1 < wn.heap.size := by omega); (try have hggx : gx < wn.heap.size := by omega); (try have hggy : gy < wn.heap.size := by omega); (try have hggz : gz < wn.heap.size := by omega)) | (go_at_call 126; refine (limb_Shl_1_63 _).mono ?_; rintro e wn ⟨rfl, hbn⟩; obtain ⟨hcn, hfn, hzn0, hzn1, hzn2, hzn3, hzn4, hzn5, hzn6, hzn7, hzn8⟩ := bcell hbn; (try simp only [World.size_drew] at hcn hfn hzn0 hzn1 hzn2 hzn3 hzn4 hzn5 hzn6 hzn7 hzn8); have hsn := hbn.size; (try simp at hsn); (try have hq0 : w.heap.size < wn.heap.size := by omega); (try have hq1 : w.heap.size + 1 < wn.heap.size := by omega); (try have hq2 : w.heap.size + 1 + 1 < wn.heap.size := by omega); (try have hq3 : w.heap.size + 1 + 1 + 1 < wn.heap.size := by omega); (try have hq4 : w.heap.size + 1 + 1 + 1 + 1 < wn.heap.size := by omega); (try have hq5 : w.heap.size + 1 + 1 + 1 + 1 + 1 < wn.heap.size := by omega); (try have hq6 : w.heap.size + 1 + 1 + 1 + 1 + 1 + 1 < wn.heap.size := by omega); (try have hq7 : w.heap.size + 1 + 1 + 1 + 1 + 1 + 1 + 1 < wn.heap.size := by omega); (try have hggx : gx < wn.heap.size := by omega); (try have hggy : gy < wn.heap.size := by omega); (try have hggz : gz < wn.heap.size := by omega)) | (go_at_call 142; refine (limb_Add _ _ _ _ _).mono ?_; rintro e wn ⟨rfl, hbn⟩; obtain ⟨hcn, hfn, hzn0, hzn1, hzn2, hzn3, hzn4, hzn5, hzn6, hzn7, hzn8⟩ := bcell hbn; (try simp only [World.size_drew] at hcn hfn hzn0 hzn1 hzn2 hzn3 hzn4 hzn5 hzn6 hzn7 hzn8); have hsn := hbn.size; (try simp at hsn); (try have hq0 : w.heap.size < wn.heap.size := by omega); (try have hq1 : w.heap.size + 1 < wn.heap.size := by omega); (try have hq2 : w.heap.size + 1 + 1 < wn.heap.size := by omega); (try have hq3 : w.heap.size + 1 + 1 + 1 < wn.heap.size := by omega); (try have hq4 : w.heap.size + 1 + 1 + 1 + 1 < wn.heap.size := by omega); (try have hq5 : w.heap.size + 1 + 1 + 1 + 1 + 1 < wn.heap.size := by omega); (try have hq6 : w.heap.size + 1 + 1 + 1 + 1 + 1 + 1 < wn.heap.size := by omega); (try have hq7 : w.heap.size + 1 + 1 + 1 + 1 + 1 + 1 + 1 < wn.heap.size := by omega); (try have hggx : gx < wn.heap.size := by omega); (try have hggy : gy < wn.heap.size := by omega); (try have hggz : gz < wn.heap.size := by omega)))
    (simp (maxDischargeDepth := 8) [bodyPost, results, Tryd.results122, go_sem, *]; try (repeat (first | (with_reducible exact Below.refl _ _) | (with_reducible assumption) | (with_reducible refine Below.alloc ?_ (by first | (with_reducible exact Nat.le_refl _) | omega | (simp <;> omega)) _) | (with_reducible refine Below.setCell ?_ (by first | (with_reducible exact Nat.le_refl _) | omega | (simp <;> omega)) _) | (with_reducible refine Below.drew ?_) | (with_reducible refine bel_step (by assumption) ?_ (by first | (with_reducible exact Nat.le_refl _) | omega | (simp <;> omega))))))
  · rw [e3 h]
    clear e1 e2 e3
    go_enter Tryd.func122, Tryd.ntmps122
    go_wp2_with (first | (go_at_call 124; refine (fix_wide _ _ _).mono ?_; rintro e wn ⟨rfl, hbn⟩; obtain ⟨hcn, hfn, hzn0, hzn1, hzn2, hzn3, hzn4, hzn5, hzn6, hzn7, hzn8⟩ := bcell hbn; (try simp only [World.size_drew] at hcn hfn hzn0 hzn1 hzn2 hzn3 hzn4 hzn5 hzn6 hzn7 hzn8); have hsn := hbn.size; (try simp at hsn); (try have hq0 : w.heap.size < wn.heap.size := by omega); (try have hq1 : w.heap.size + 1 < wn.heap.size := by omega); (try have hq2 : w.heap.size + 1 + 1 < wn.heap.size := by omega); (try have hq3 : w.heap.size + 1 + 1 + 1 < wn.heap.size := by omega); (try have hq4 : w.heap.size + 1 + 1 + 1 + 1 < wn.heap.size := by omega); (try have hq5 : w.heap.size + 1 + 1 + 1 + 1 + 1 < wn.heap.size := by omega); (try have hq6 : w.heap.size + 1 + 1 + 1 + 1 + 1 + 1 < wn.heap.size := by omega); (try have hq7 : w.heap.size + 1 + 1 + 1 + 1 + 1 + 1 + 1 < wn.heap.size := by omega); (try have hggx : gx < wn.heap.size := by omega); (try have hggy : gy < wn.heap.size := by omega); (try have hggz : gz < wn.heap.size := by omega)) | (go_at_call 126; refine (limb_Shl_1_63 _).mono ?_; rintro e wn ⟨rfl, hbn⟩; obtain ⟨hcn, hfn, hzn0, hzn1, hzn2, hzn3, hzn4, hzn5, hzn6, hzn7, hzn8⟩ := bcell hbn; (try simp only [World.size_drew] at hcn hfn hzn0 hzn1 hzn2 hzn3 hzn4 hzn5 hzn6 hzn7 hzn8); have hsn := hbn.size; (try simp at hsn); (try have hq0 : w.heap.size < wn.heap.size := by omega); (try have hq1 : w.heap.size + 1 < wn.heap.size := by omega); (try have hq2 : w.heap.size + 1 + 1 < wn.heap.size := by omega); (try have hq3 : w.heap.size + 1 + 1 + 1 < wn.heap.size := by omega); (try have hq4 : w.heap.size + 1 + 1 + 1 + 1 < wn.heap.size := by omega); (try have hq5 : w.heap.size + 1 + 1 + 1 + 1 + 1 < wn.heap.size := by omega); (try have hq6 : w.heap.size + 1 + 1 + 1 + 1 + 1 + 1 < wn.heap.size := by omega); (try have hq7 : w.heap.size + 1 + 1 + 1 + 1 + 1 + 1 + 1 < wn.heap.size := by omega); (try have hggx : gx < wn.heap.size := by omega); (try have hggy : gy < wn.heap.size := by omega); (try have hggz : gz < wn.heap.size := by omega)) | (go_at_call 142; refine (limb_Add _ _ _ _ _).mono ?_; rintro e wn ⟨rfl, hbn⟩; obtain ⟨hcn, hfn, hzn0, hzn1, hzn2, hzn3, hzn4, hzn5, hzn6, hzn7, hzn8⟩ := bcell hbn; (try simp only [World.size_drew] at hcn hfn hzn0 hzn1 hzn2 hzn3 hzn4 hzn5 hzn6 hzn7 hzn8); have hsn := hbn.size; (try simp at hsn); (try have hq0 : w.heap.size < wn.heap.size := by omega); (try have hq1 : w.heap.size + 1 < wn.heap.size := by omega); (try have hq2 : w.heap.size + 1 + 1 < wn.heap.size := by omega); (try have hq3 : w.heap.size + 1 + 1 + 1 < wn.heap.size := by omega); (try have hq4 : w.heap.size + 1 + 1 + 1 + 1 < wn.heap.size := by omega); (try have hq5 : w.heap.size + 1 + 1 + 1 + 1 + 1 < wn.heap.size := by omega); (try have hq6 : w.heap.size + 1 + 1 + 1 + 1 + 1 + 1 < wn.heap.size := by omega); (try have hq7 : w.heap.size + 1 + 1 + 1 + 1 + 1 + 1 + 1 < wn.heap.size := by omega); (try have hggx : gx < wn.heap.size := by omega); (try have hggy : gy < wn.heap.size := by omega); (try have hggz : gz < wn.heap.size := by omega)))
    (simp (maxDischargeDepth := 8) [bodyPost, results, Tryd.results122, go_sem, *]; try (repeat (first | (with_reducible exact Below.refl _ _) | (with_reducible assumption) | (with_reducible refine Below.alloc ?_ (by first | (with_reducible exact Nat.le_refl _) | omega | (simp <;> omega)) _) | (with_reducible refine Below.setCell ?_ (by first | (with_reducible exact Nat.le_refl _) | omega | (simp <;> omega)) _) | (with_reducible refine Below.drew ?_) | (with_reducible refine bel_step (by assumption) ?_ (by first | (with_reducible exact Nat.le_refl _) | omega | (simp <;> omega))))))
set_option maxHeartbeats 800000 in
theorem fix_more_0 (a b c d : Int) [U a] [U b] [U c] [U d] : Gives 122 #[.agg #[.int .u64 a, .int .u64 b, .int .u64 c, .int .u64 d], .int .i64 0] (four (mod4 (val4 a b c d + 1))) := by
  intro w
  obtain ⟨e1, e2, e3⟩ := more_parts a b c d 1
  unfold four
  rw [e1]
  cases h : over2 (val2 c d + val2 0 1)
  · rw [e2 h]
    clear e1 e2 e3
    go_enter Tryd.func122, Tryd.ntmps122
    go_wp2_with (first | (go_at_call 124; refine (fix_wide _ _ _).mono ?_; rintro e wn ⟨rfl, hbn⟩; obtain ⟨hcn, hfn, hzn0, hzn1, hzn2, hzn3, hzn4, hzn5, hzn6, hzn7, hzn8⟩ := bcell hbn; (try simp only [World.size_drew] at hcn hfn hzn0 hzn1 hzn2 hzn3 hzn4 hzn5 hzn6 hzn7 hzn8); have hsn := hbn.size; (try simp at hsn); (try have hq0 : w.heap.size < wn.heap.size := by omega); (try have hq1 : w.heap.size + 1 < wn.heap.size := by omega); (try have hq2 : w.heap.size + 1 + 1 < wn.heap.size := by omega); (try have hq3 : w.heap.size + 1 + 1 + 1 < wn.heap.size := by omega); (try have hq4 : w.heap.size + 1 + 1 + 1 + 1 < wn.heap.size := by omega); (try have hq5 : w.heap.size + 1 + 1 + 1 + 1 + 1 < wn.heap.size := by omega); (try have hq6 : w.heap.size + 1 + 1 + 1 + 1 + 1 + 1 < wn.heap.size := by omega); (try have hq7 : w.heap.size + 1 + 1 + 1 + 1 + 1 + 1 + 1 < wn.heap.size := by omega); (try have hggx : gx < wn.heap.size := by omega); (try have hggy : gy < wn.heap.size := by omega); (try have hggz : gz < wn.heap.size := by omega)) | (go_at_call 126; refine (limb_Shl_1_0 _).mono ?_; rintro e wn ⟨rfl, hbn⟩; obtain ⟨hcn, hfn, hzn0, hzn1, hzn2, hzn3, hzn4, hzn5, hzn6, hzn7, hzn8⟩ := bcell hbn; (try simp only [World.size_drew] at hcn hfn hzn0 hzn1 hzn2 hzn3 hzn4 hzn5 hzn6 hzn7 hzn8); have hsn := hbn.size; (try simp at hsn); (try have hq0 : w.heap.size < wn.heap.size := by omega); (try have hq1 : w.heap.size + 1 < wn.heap.size := by omega); (try have hq2 : w.heap.size + 1 + 1 < wn.heap.size := by omega); (try have hq3 : w.heap.size + 1 + 1 + 1 < wn.heap.size := by omega); (try have hq4 : w.heap.size + 1 + 1 + 1 + 1 < wn.heap.size := by omega); (try have hq5 : w.heap.size + 1 + 1 + 1 + 1 + 1 < wn.heap.size := by omega); (try have hq6 : w.heap.size + 1 + 1 + 1 + 1 + 1 + 1 < wn.heap.size := by omega); (try have hq7 : w.heap.size + 1 + 1 + 1 + 1 + 1 + 1 + 1 < wn.heap.size := by omega); (try have hggx : gx < wn.heap.size := by omega); (try have hggy : gy < wn.heap.size := by omega); (try have hggz : gz < wn.heap.size := by omega)) | (go_at_call 142; refine (limb_Add _ _ _ _ _).mono ?_; rintro e wn ⟨rfl, hbn⟩; obtain ⟨hcn, hfn, hzn0, hzn1, hzn2, hzn3, hzn4, hzn5, hzn6, hzn7, hzn8⟩ := bcell hbn; (try simp only [World.size_drew] at hcn hfn hzn0 hzn1 hzn2 hzn3 hzn4 hzn5 hzn6 hzn7 hzn8); have hsn := hbn.size; (try simp at hsn); (try have hq0 : w.heap.size < wn.heap.size := by omega); (try have hq1 : w.heap.size + 1 < wn.heap.size := by omega); (try have hq2 : w.heap.size + 1 + 1 < wn.heap.size := by omega); (try have hq3 : w.heap.size + 1 + 1 + 1 < wn.heap.size := by omega); (try have hq4 : w.heap.size + 1 + 1 + 1 + 1 < wn.heap.size := by omega); (try have hq5 : w.heap.size + 1 + 1 + 1 + 1 + 1 < wn.heap.size := by omega); (try have hq6 : w.heap.size + 1 + 1 + 1 + 1 + 1 + 1 < wn.heap.size := by omega); (try have hq7 : w.heap.size + 1 + 1 + 1 + 1 + 1 + 1 + 1 < wn.heap.size := by omega); (try have hggx : gx < wn.heap.size := by omega); (try have hggy : gy < wn.heap.size := by omega); (try have hggz : gz < wn.heap.size := by omega)))
    (simp (maxDischargeDepth := 8) [bodyPost, results, Tryd.results122, go_sem, *]; try (repeat (first | (with_reducible exact Below.refl _ _) | (with_reducible assumption) | (with_reducible refine Below.alloc ?_ (by first | (with_reducible exact Nat.le_refl _) | omega | (simp <;> omega)) _) | (with_reducible refine Below.setCell ?_ (by first | (with_reducible exact Nat.le_refl _) | omega | (simp <;> omega)) _) | (with_reducible refine Below.drew ?_) | (with_reducible refine bel_step (by assumption) ?_ (by first | (with_reducible exact Nat.le_refl _) | omega | (simp <;> omega))))))
  · rw [e3 h]
    clear e1 e2 e3
    go_enter Tryd.func122, Tryd.ntmps122
    go_wp2_with (first | (go_at_call 124; refine (fix_wide _ _ _).mono ?_; rintro e wn ⟨rfl, hbn⟩; obtain ⟨hcn, hfn, hzn0, hzn1, hzn2, hzn3, hzn4, hzn5, hzn6, hzn7, hzn8⟩ := bcell hbn; (try simp only [World.size_drew] at hcn hfn hzn0 hzn1 hzn2 hzn3 hzn4 hzn5 hzn6 hzn7 hzn8); have hsn := hbn.size; (try simp at hsn); (try have hq0 : w.heap.size < wn.heap.size := by omega); (try have hq1 : w.heap.size + 1 < wn.heap.size := by omega); (try have hq2 : w.heap.size + 1 + 1 < wn.heap.size := by omega); (try have hq3 : w.heap.size + 1 + 1 + 1 < wn.heap.size := by omega); (try have hq4 : w.heap.size + 1 + 1 + 1 + 1 < wn.heap.size := by omega); (try have hq5 : w.heap.size + 1 + 1 + 1 + 1 + 1 < wn.heap.size := by omega); (try have hq6 : w.heap.size + 1 + 1 + 1 + 1 + 1 + 1 < wn.heap.size := by omega); (try have hq7 : w.heap.size + 1 + 1 + 1 + 1 + 1 + 1 + 1 < wn.heap.size := by omega); (try have hggx : gx < wn.heap.size := by omega); (try have hggy : gy < wn.heap.size := by omega); (try have hggz : gz < wn.heap.size := by omega)) | (go_at_call 126; refine (limb_Shl_1_0 _).mono ?_; rintro e wn ⟨rfl, hbn⟩; obtain ⟨hcn, hfn, hzn0, hzn1, hzn2, hzn3, hzn4, hzn5, hzn6, hzn7, hzn8⟩ := bcell hbn; (try simp only [World.size_drew] at hcn hfn hzn0 hzn1 hzn2 hzn3 hzn4 hzn5 hzn6 hzn7 hzn8); have hsn := hbn.size; (try simp at hsn); (try have hq0 : w.heap.size < wn.heap.size := by omega); (try have hq1 : w.heap.size + 1 < wn.heap.size := by omega); (try have hq2 : w.heap.size + 1 + 1 < wn.heap.size := by omega); (try have hq3 : w.heap.size + 1 + 1 + 1 < wn.heap.size := by omega); (try have hq4 : w.heap.size + 1 + 1 + 1 + 1 < wn.heap.size := by omega); (try have hq5 : w.heap.size + 1 + 1 + 1 + 1 + 1 < wn.heap.size := by omega); (try have hq6 : w.heap.size + 1 + 1 + 1 + 1 + 1 + 1 < wn.heap.size := by omega); (try have hq7 : w.heap.size + 1 + 1 + 1 + 1 + 1 + 1 + 1 < wn.heap.size := by omega); (try have hggx : gx < wn.heap.size := by omega); (try have hggy : gy < wn.heap.size := by omega); (try have hggz : gz < wn.heap.size := by omega)) | (go_at_call 142; refine (limb_Add _ _ _ _ _).mono ?_; rintro e wn ⟨rfl, hbn⟩; obtain ⟨hcn, hfn, hzn0, hzn1, hzn2, hzn3, hzn4, hzn5, hzn6, hzn7, hzn8⟩ := bcell hbn; (try simp only [World.size_drew] at hcn hfn hzn0 hzn1 hzn2 hzn3 hzn4 hzn5 hzn6 hzn7 hzn8); have hsn := hbn.size; (try simp at hsn); (try have hq0 : w.heap.size < wn.heap.size := by omega); (try have hq1 : w.heap.size + 1 < wn.heap.size := by omega); (try have hq2 : w.heap.size + 1 + 1 < wn.heap.size := by omega); (try have hq3 : w.heap.size + 1 + 1 + 1 < wn.heap.size := by omega); (try have hq4 : w.heap.size + 1 + 1 + 1 + 1 < wn.heap.size := by omega); (try have hq5 : w.heap.size + 1 + 1 + 1 + 1 + 1 < wn.heap.size := by omega); (try have hq6 : w.heap.size + 1 + 1 + 1 + 1 + 1 + 1 < wn.heap.size := by omega); (try have hq7 : w.heap.size + 1 + 1 + 1 + 1 + 1 + 1 + 1 < wn.heap.size := by omega); (try have hggx : gx < wn.heap.size := by omega); (try have hggy : gy < wn.heap.size := by omega); (try have hggz : gz < wn.heap.size := by omega)))
    (simp (maxDischargeDepth := 8) [bodyPost, results, Tryd.results122, go_sem, *]; try (repeat (first | (with_reducible exact Below.refl _ _) | (with_reducible assumption) | (with_reducible refine Below.alloc ?_ (by first | (with_reducible exact Nat.le_refl _) | omega | (simp <;> omega)) _) | (with_reducible refine Below.setCell ?_ (by first | (with_reducible exact Nat.le_refl _) | omega | (simp <;> omega)) _) | (with_reducible refine Below.drew ?_) | (with_reducible refine bel_step (by assumption) ?_ (by first | (with_reducible exact Nat.le_refl _) | omega | (simp <;> omega))))))
end Go.Proofs.YtpbklojdmkpkcaaDoor
/- fix: turned about; sums, differences, products, halves. -/
namespace Go.Proofs.YtpbklojdmkpkcaaDoor
open Go.RowKit
set_option linter.unusedSimpArgs false
set_option linter.unusedVariables false

theorem ofSize_not (a : Int) [h : F a] : ofSize (mag a) (!neg a) = -a := by
  have := h.h
  unfold ofSize mag neg
  by_cases hn : a < 0
  · simp [hn]; exact signed_of (-a)
  · simp [hn]; exact signed_of (-a)
theorem ofSize_mag (a : Int) [h : F a] : ofSize (mag a) (neg a) = a := by
  have := h.h
  unfold ofSize mag neg
  by_cases hn : a < 0
  · simp [hn]; exact signed_of a
  · simp [hn]; exact signed_of a

set_option maxHeartbeats 800000 in
theorem fix_Neg (a : Int) [h : F a] : Gives 107 #[fx a] (fx (-a)) := by
  intro w
  have e := ofSize_not a
  rw [← val2_hi_lo (mag a)] at e
  rw [← e]
  clear e
  go_enter Tryd.func107, Tryd.ntmps107
  go_wp2_with (first | (go_at_call 119; refine (fix_of _ _).mono ?_; rintro e wn ⟨rfl, hbn⟩; obtain ⟨hcn, hfn, hzn0, hzn1, hzn2, hzn3, hzn4, hzn5, hzn6, hzn7, hzn8⟩ := bcell hbn; (try simp only [World.size_drew] at hcn hfn hzn0 hzn1 hzn2 hzn3 hzn4 hzn5 hzn6 hzn7 hzn8); have hsn := hbn.size; (try simp at hsn); (try have hq0 : w.heap.size < wn.heap.size := by omega); (try have hq1 : w.heap.size + 1 < wn.heap.size := by omega); (try have hq2 : w.heap.size + 1 + 1 < wn.heap.size := by omega); (try have hq3 : w.heap.size + 1 + 1 + 1 < wn.heap.size := by omega); (try have hq4 : w.heap.size + 1 + 1 + 1 + 1 < wn.heap.size := by omega); (try have hq5 : w.heap.size + 1 + 1 + 1 + 1 + 1 < wn.heap.size := by omega); (try have hq6 : w.heap.size + 1 + 1 + 1 + 1 + 1 + 1 < wn.heap.size := by omega); (try have hq7 : w.heap.size + 1 + 1 + 1 + 1 + 1 + 1 + 1 < wn.heap.size := by omega); (try have hggx : gx < wn.heap.size := by omega); (try have hggy : gy < wn.heap.size := by omega); (try have hggz : gz < wn.heap.size := by omega)) | (go_at_call 140; refine (fix_fix _ _ _ _).mono ?_; rintro e wn ⟨rfl, hbn⟩; obtain ⟨hcn, hfn, hzn0, hzn1, hzn2, hzn3, hzn4, hzn5, hzn6, hzn7, hzn8⟩ := bcell hbn; (try simp only [World.size_drew] at hcn hfn hzn0 hzn1 hzn2 hzn3 hzn4 hzn5 hzn6 hzn7 hzn8); have hsn := hbn.size; (try simp at hsn); (try have hq0 : w.heap.size < wn.heap.size := by omega); (try have hq1 : w.heap.size + 1 < wn.heap.size := by omega); (try have hq2 : w.heap.size + 1 + 1 < wn.heap.size := by omega); (try have hq3 : w.heap.size + 1 + 1 + 1 < wn.heap.size := by omega); (try have hq4 : w.heap.size + 1 + 1 + 1 + 1 < wn.heap.size := by omega); (try have hq5 : w.heap.size + 1 + 1 + 1 + 1 + 1 < wn.heap.size := by omega); (try have hq6 : w.heap.size + 1 + 1 + 1 + 1 + 1 + 1 < wn.heap.size := by omega); (try have hq7 : w.heap.size + 1 + 1 + 1 + 1 + 1 + 1 + 1 < wn.heap.size := by omega); (try have hggx : gx < wn.heap.size := by omega); (try have hggy : gy < wn.heap.size := by omega); (try have hggz : gz < wn.heap.size := by omega)))
  (simp (maxDischargeDepth := 8) [bodyPost, results, Tryd.results107, go_sem, *]; try (repeat (first | (with_reducible exact Below.refl _ _) | (with_reducible assumption) | (with_reducible refine Below.alloc ?_ (by first | (with_reducible exact Nat.le_refl _) | omega | (simp <;> omega)) _) | (with_reducible refine Below.setCell ?_ (by first | (with_reducible exact Nat.le_refl _) | omega | (simp <;> omega)) _) | (with_reducible refine Below.drew ?_) | (with_reducible refine bel_step (by assumption) ?_ (by first | (with_reducible exact Nat.le_refl _) | omega | (simp <;> omega))))))

/-- A sum, if there is one. -/
def addF (a b : Int) : Except Int Int := if -170141183460469231731687303715884105728 < a + b ∧ a + b < 170141183460469231731687303715884105728 then .ok (a + b) else .error 3
theorem addF_F {a b r : Int} (h : addF a b = .ok r) : F r := by
  unfold addF at h; split at h
  · cases h; exact ⟨by omega⟩
  · cases h
def subF (a b : Int) : Except Int Int := addF a (-b)
/-- The three ways of a sum. -/
theorem add_same (a b : Int) [ha : F a] [hb : F b] (h : neg a = neg b) :
    tell (val4 0 0 (hi (mod2 (val2 (hi (mag a)) (lo (mag a)) + val2 (hi (mag b)) (lo (mag b))))) (lo (mod2 (val2 (hi (mag a)) (lo (mag a)) + val2 (hi (mag b)) (lo (mag b)))))) (neg a) = addF a b := by
  have := ha.h; have := hb.h
  rw [val4_0, val2_hi_lo, val2_hi_lo, val2_hi_lo]
  unfold neg at *
  unfold tell addF mag mod2
  by_cases h1 : a < 0
  · have h2 : b < 0 := by simpa [h1] using h
    simp [h1, h2]
    split
    · rw [if_neg (by omega)]
    · rw [if_pos (by omega)]; congr 1; omega
  · have h2 : ¬ b < 0 := by simpa [h1] using h
    simp [h1, h2]
    split
    · rw [if_neg (by omega)]
    · rw [if_pos (by omega)]; congr 1; omega
theorem add_less (a b : Int) [ha : F a] [hb : F b] (h : (neg a == neg b) = false) (hl : below (val2 (hi (mag a)) (lo (mag a)) - val2 (hi (mag b)) (lo (mag b))) = true) :
    addF a b = .ok (ofSize (val2 (hi (mod2 (val2 (hi (mag b)) (lo (mag b)) - val2 (hi (mag a)) (lo (mag a))))) (lo (mod2 (val2 (hi (mag b)) (lo (mag b)) - val2 (hi (mag a)) (lo (mag a)))))) (neg b)) := by
  have := ha.h; have := hb.h
  rw [val2_hi_lo, val2_hi_lo, val2_hi_lo] at *
  unfold neg at *
  have hl := of_decide_eq_true hl
  unfold addF ofSize mag mod2 signed at *
  by_cases h1 : a < 0 <;> by_cases h2 : b < 0 <;> simp [h1, h2] at h hl ⊢
  · rw [if_pos (by omega)]; congr 1; omega
  · rw [if_pos (by omega)]; congr 1; omega
theorem add_more (a b : Int) [ha : F a] [hb : F b] (h : (neg a == neg b) = false) (hl : below (val2 (hi (mag a)) (lo (mag a)) - val2 (hi (mag b)) (lo (mag b))) = false) :
    addF a b = .ok (ofSize (val2 (hi (mod2 (val2 (hi (mag a)) (lo (mag a)) - val2 (hi (mag b)) (lo (mag b))))) (lo (mod2 (val2 (hi (mag a)) (lo (mag a)) - val2 (hi (mag b)) (lo (mag b)))))) (neg a)) := by
  have := ha.h; have := hb.h
  rw [val2_hi_lo, val2_hi_lo, val2_hi_lo] at *
  unfold neg at *
  have hl := of_decide_eq_false hl
  unfold addF ofSize mag mod2 signed at *
  by_cases h1 : a < 0 <;> by_cases h2 : b < 0 <;> simp [h1, h2] at h hl ⊢
  · rw [if_pos (by omega)]; congr 1; omega
  · rw [if_pos (by omega)]; congr 1; omega

end Go.Proofs.YtpbklojdmkpkcaaDoor
/- fix: sums. -/
namespace Go.Proofs.YtpbklojdmkpkcaaDoor
open Go.RowKit
set_option linter.unusedSimpArgs false
set_option linter.unusedVariables false
/-- Two sizes in blocks of their own; the result's block is empty yet. -/
def Sizes (a b : Int) (r : Nat) (w : World) (s6 s7 : Value) (wx : World) : Prop :=
  ∃ gx gy : Nat, s6 = .pointer (some ⟨gx, 0, none⟩) ∧ s7 = .pointer (some ⟨gy, 0, none⟩) ∧ gx < wx.heap.size ∧ gy < wx.heap.size ∧ r < gx ∧ r < gy ∧ r < wx.heap.size ∧ Below w.heap.size w wx ∧
    wx.cell? ⟨gx, 0, none⟩ = some (.int .u64 (hi (mag a))) ∧ wx.cell? ⟨gx, 1, none⟩ = some (.int .u64 (lo (mag a))) ∧ wx.cell? ⟨gx, 2, none⟩ = some (.bool (neg a)) ∧
    wx.cell? ⟨gy, 0, none⟩ = some (.int .u64 (hi (mag b))) ∧ wx.cell? ⟨gy, 1, none⟩ = some (.int .u64 (lo (mag b))) ∧ wx.cell? ⟨gy, 2, none⟩ = some (.bool (neg b)) ∧
    wx.cell? ⟨r, 0, none⟩ = some (.int .i64 0) ∧ wx.cell? ⟨r, 1, none⟩ = some (.int .u64 0) ∧ wx.frozen? ⟨r, 0, none⟩ = false ∧ wx.frozen? ⟨r, 1, none⟩ = false
set_option maxHeartbeats 3200000 in
theorem fix_Add (a b : Int) [F a] [F b] : Gives 115 #[fx a, fx b] (res (addF a b)) := by
  intro w
  go_enter Tryd.func115, Tryd.ntmps115
  go_upto_region 1 with fail
  go_cut [6, 7] (fun s6 s7 wx => Sizes a b (w.heap.size + 1 + 1) w s6 s7 wx)
  case first =>
    go_region_held3 (fun w' => w'.cell? ⟨w.heap.size, 0, none⟩ = some (.int .i64 (hi a)) ∧ w'.cell? ⟨w.heap.size, 1, none⟩ = some (.int .u64 (lo a)) ∧ w'.cell? ⟨w.heap.size + 1, 0, none⟩ = some (.int .i64 (hi b)) ∧ w'.cell? ⟨w.heap.size + 1, 1, none⟩ = some (.int .u64 (lo b))) (simp (maxDischargeDepth := 8) [go_sem, *])
      (first | (go_at_call 119; refine (fix_of _ _).mono ?_; rintro e wn ⟨rfl, hbn⟩; obtain ⟨hcn, hfn, hzn0, hzn1, hzn2, hzn3, hzn4, hzn5, hzn6, hzn7, hzn8⟩ := bcell hbn; (try simp only [World.size_drew] at hcn hfn hzn0 hzn1 hzn2 hzn3 hzn4 hzn5 hzn6 hzn7 hzn8); have hsn := hbn.size; (try simp at hsn); (try have hq0 : w.heap.size < wn.heap.size := by omega); (try have hq1 : w.heap.size + 1 < wn.heap.size := by omega); (try have hq2 : w.heap.size + 1 + 1 < wn.heap.size := by omega); (try have hq3 : w.heap.size + 1 + 1 + 1 < wn.heap.size := by omega); (try have hq4 : w.heap.size + 1 + 1 + 1 + 1 < wn.heap.size := by omega); (try have hq5 : w.heap.size + 1 + 1 + 1 + 1 + 1 < wn.heap.size := by omega); (try have hq6 : w.heap.size + 1 + 1 + 1 + 1 + 1 + 1 < wn.heap.size := by omega); (try have hq7 : w.heap.size + 1 + 1 + 1 + 1 + 1 + 1 + 1 < wn.heap.size := by omega); (try have hggx : gx < wn.heap.size := by omega); (try have hggy : gy < wn.heap.size := by omega); (try have hggz : gz < wn.heap.size := by omega)))
    all_goals (go_wp2_with fail; go_meet; unfold Sizes; exact ⟨_, _, rfl, rfl, by (first | omega | (simp <;> omega)), by (first | omega | (simp <;> omega)), by (first | omega | (simp <;> omega)), by (first | omega | (simp <;> omega)), by (first | omega | (simp <;> omega)), by (repeat (first | (with_reducible exact Below.refl _ _) | (with_reducible assumption) | (with_reducible refine Below.alloc ?_ (by first | (with_reducible exact Nat.le_refl _) | omega | (simp <;> omega)) _) | (with_reducible refine Below.setCell ?_ (by first | (with_reducible exact Nat.le_refl _) | omega | (simp <;> omega)) _) | (with_reducible refine Below.drew ?_) | (with_reducible refine bel_step (by assumption) ?_ (by first | (with_reducible exact Nat.le_refl _) | omega | (simp <;> omega))))), by (simp (maxDischargeDepth := 8) [go_sem, *]; done), by (simp (maxDischargeDepth := 8) [go_sem, *]; done), by (simp (maxDischargeDepth := 8) [go_sem, *]; done), by (simp (maxDischargeDepth := 8) [go_sem, *]; done), by (simp (maxDischargeDepth := 8) [go_sem, *]; done), by (simp (maxDischargeDepth := 8) [go_sem, *]; done), by (simp (maxDischargeDepth := 8) [go_sem, *]; done), by (simp (maxDischargeDepth := 8) [go_sem, *]; done), by (simp (maxDischargeDepth := 8) [go_sem, *]; done), by (simp (maxDischargeDepth := 8) [go_sem, *]; done)⟩)
  case rest =>
    obtain ⟨gx, gy, rfl, rfl, k1, k2, k3, k4, k5, hbx, a0, a1, a2, b0, b1, b2, c0, c1, f0, f1⟩ := hcut
    cases hs : neg a == neg b
    · cases hl : below (val2 (hi (mag a)) (lo (mag a)) - val2 (hi (mag b)) (lo (mag b)))
      · go_wp2_with (first | (go_at_call 119; refine (fix_of _ _).mono ?_; rintro e wn ⟨rfl, hbn⟩; obtain ⟨hcn, hfn, hzn0, hzn1, hzn2, hzn3, hzn4, hzn5, hzn6, hzn7, hzn8⟩ := bcell hbn; (try simp only [World.size_drew] at hcn hfn hzn0 hzn1 hzn2 hzn3 hzn4 hzn5 hzn6 hzn7 hzn8); have hsn := hbn.size; (try simp at hsn); (try have hq0 : w.heap.size < wn.heap.size := by omega); (try have hq1 : w.heap.size + 1 < wn.heap.size := by omega); (try have hq2 : w.heap.size + 1 + 1 < wn.heap.size := by omega); (try have hq3 : w.heap.size + 1 + 1 + 1 < wn.heap.size := by omega); (try have hq4 : w.heap.size + 1 + 1 + 1 + 1 < wn.heap.size := by omega); (try have hq5 : w.heap.size + 1 + 1 + 1 + 1 + 1 < wn.heap.size := by omega); (try have hq6 : w.heap.size + 1 + 1 + 1 + 1 + 1 + 1 < wn.heap.size := by omega); (try have hq7 : w.heap.size + 1 + 1 + 1 + 1 + 1 + 1 + 1 < wn.heap.size := by omega); (try have hggx : gx < wn.heap.size := by omega); (try have hggy : gy < wn.heap.size := by omega); (try have hggz : gz < wn.heap.size := by omega)) | (go_at_call 136; refine (limb_Sub _ _ _ _ _).mono ?_; rintro e wn ⟨rfl, hbn⟩; obtain ⟨hcn, hfn, hzn0, hzn1, hzn2, hzn3, hzn4, hzn5, hzn6, hzn7, hzn8⟩ := bcell hbn; (try simp only [World.size_drew] at hcn hfn hzn0 hzn1 hzn2 hzn3 hzn4 hzn5 hzn6 hzn7 hzn8); have hsn := hbn.size; (try simp at hsn); (try have hq0 : w.heap.size < wn.heap.size := by omega); (try have hq1 : w.heap.size + 1 < wn.heap.size := by omega); (try have hq2 : w.heap.size + 1 + 1 < wn.heap.size := by omega); (try have hq3 : w.heap.size + 1 + 1 + 1 < wn.heap.size := by omega); (try have hq4 : w.heap.size + 1 + 1 + 1 + 1 < wn.heap.size := by omega); (try have hq5 : w.heap.size + 1 + 1 + 1 + 1 + 1 < wn.heap.size := by omega); (try have hq6 : w.heap.size + 1 + 1 + 1 + 1 + 1 + 1 < wn.heap.size := by omega); (try have hq7 : w.heap.size + 1 + 1 + 1 + 1 + 1 + 1 + 1 < wn.heap.size := by omega); (try have hggx : gx < wn.heap.size := by omega); (try have hggy : gy < wn.heap.size := by omega); (try have hggz : gz < wn.heap.size := by omega)) | (go_at_call 140; refine (fix_fix _ _ _ _).mono ?_; rintro e wn ⟨rfl, hbn⟩; obtain ⟨hcn, hfn, hzn0, hzn1, hzn2, hzn3, hzn4, hzn5, hzn6, hzn7, hzn8⟩ := bcell hbn; (try simp only [World.size_drew] at hcn hfn hzn0 hzn1 hzn2 hzn3 hzn4 hzn5 hzn6 hzn7 hzn8); have hsn := hbn.size; (try simp at hsn); (try have hq0 : w.heap.size < wn.heap.size := by omega); (try have hq1 : w.heap.size + 1 < wn.heap.size := by omega); (try have hq2 : w.heap.size + 1 + 1 < wn.heap.size := by omega); (try have hq3 : w.heap.size + 1 + 1 + 1 < wn.heap.size := by omega); (try have hq4 : w.heap.size + 1 + 1 + 1 + 1 < wn.heap.size := by omega); (try have hq5 : w.heap.size + 1 + 1 + 1 + 1 + 1 < wn.heap.size := by omega); (try have hq6 : w.heap.size + 1 + 1 + 1 + 1 + 1 + 1 < wn.heap.size := by omega); (try have hq7 : w.heap.size + 1 + 1 + 1 + 1 + 1 + 1 + 1 < wn.heap.size := by omega); (try have hggx : gx < wn.heap.size := by omega); (try have hggy : gy < wn.heap.size := by omega); (try have hggz : gz < wn.heap.size := by omega)))
        rw [add_more a b hs hl, res_ok]
        (simp (maxDischargeDepth := 8) [bodyPost, results, Tryd.results115, go_sem, *]; try (repeat (first | (with_reducible exact Below.refl _ _) | (with_reducible assumption) | (with_reducible refine Below.alloc ?_ (by first | (with_reducible exact Nat.le_refl _) | omega | (simp <;> omega)) _) | (with_reducible refine Below.setCell ?_ (by first | (with_reducible exact Nat.le_refl _) | omega | (simp <;> omega)) _) | (with_reducible refine Below.drew ?_) | (with_reducible refine bel_step (by assumption) ?_ (by first | (with_reducible exact Nat.le_refl _) | omega | (simp <;> omega))))))
      · go_wp2_with (first | (go_at_call 119; refine (fix_of _ _).mono ?_; rintro e wn ⟨rfl, hbn⟩; obtain ⟨hcn, hfn, hzn0, hzn1, hzn2, hzn3, hzn4, hzn5, hzn6, hzn7, hzn8⟩ := bcell hbn; (try simp only [World.size_drew] at hcn hfn hzn0 hzn1 hzn2 hzn3 hzn4 hzn5 hzn6 hzn7 hzn8); have hsn := hbn.size; (try simp at hsn); (try have hq0 : w.heap.size < wn.heap.size := by omega); (try have hq1 : w.heap.size + 1 < wn.heap.size := by omega); (try have hq2 : w.heap.size + 1 + 1 < wn.heap.size := by omega); (try have hq3 : w.heap.size + 1 + 1 + 1 < wn.heap.size := by omega); (try have hq4 : w.heap.size + 1 + 1 + 1 + 1 < wn.heap.size := by omega); (try have hq5 : w.heap.size + 1 + 1 + 1 + 1 + 1 < wn.heap.size := by omega); (try have hq6 : w.heap.size + 1 + 1 + 1 + 1 + 1 + 1 < wn.heap.size := by omega); (try have hq7 : w.heap.size + 1 + 1 + 1 + 1 + 1 + 1 + 1 < wn.heap.size := by omega); (try have hggx : gx < wn.heap.size := by omega); (try have hggy : gy < wn.heap.size := by omega); (try have hggz : gz < wn.heap.size := by omega)) | (go_at_call 136; refine (limb_Sub _ _ _ _ _).mono ?_; rintro e wn ⟨rfl, hbn⟩; obtain ⟨hcn, hfn, hzn0, hzn1, hzn2, hzn3, hzn4, hzn5, hzn6, hzn7, hzn8⟩ := bcell hbn; (try simp only [World.size_drew] at hcn hfn hzn0 hzn1 hzn2 hzn3 hzn4 hzn5 hzn6 hzn7 hzn8); have hsn := hbn.size; (try simp at hsn); (try have hq0 : w.heap.size < wn.heap.size := by omega); (try have hq1 : w.heap.size + 1 < wn.heap.size := by omega); (try have hq2 : w.heap.size + 1 + 1 < wn.heap.size := by omega); (try have hq3 : w.heap.size + 1 + 1 + 1 < wn.heap.size := by omega); (try have hq4 : w.heap.size + 1 + 1 + 1 + 1 < wn.heap.size := by omega); (try have hq5 : w.heap.size + 1 + 1 + 1 + 1 + 1 < wn.heap.size := by omega); (try have hq6 : w.heap.size + 1 + 1 + 1 + 1 + 1 + 1 < wn.heap.size := by omega); (try have hq7 : w.heap.size + 1 + 1 + 1 + 1 + 1 + 1 + 1 < wn.heap.size := by omega); (try have hggx : gx < wn.heap.size := by omega); (try have hggy : gy < wn.heap.size := by omega); (try have hggz : gz < wn.heap.size := by omega)) | (go_at_call 140; refine (fix_fix _ _ _ _).mono ?_; rintro e wn ⟨rfl, hbn⟩; obtain ⟨hcn, hfn, hzn0, hzn1, hzn2, hzn3, hzn4, hzn5, hzn6, hzn7, hzn8⟩ := bcell hbn; (try simp only [World.size_drew] at hcn hfn hzn0 hzn1 hzn2 hzn3 hzn4 hzn5 hzn6 hzn7 hzn8); have hsn := hbn.size; (try simp at hsn); (try have hq0 : w.heap.size < wn.heap.size := by omega); (try have hq1 : w.heap.size + 1 < wn.heap.size := by omega); (try have hq2 : w.heap.size + 1 + 1 < wn.heap.size := by omega); (try have hq3 : w.heap.size + 1 + 1 + 1 < wn.heap.size := by omega); (try have hq4 : w.heap.size + 1 + 1 + 1 + 1 < wn.heap.size := by omega); (try have hq5 : w.heap.size + 1 + 1 + 1 + 1 + 1 < wn.heap.size := by omega); (try have hq6 : w.heap.size + 1 + 1 + 1 + 1 + 1 + 1 < wn.heap.size := by omega); (try have hq7 : w.heap.size + 1 + 1 + 1 + 1 + 1 + 1 + 1 < wn.heap.size := by omega); (try have hggx : gx < wn.heap.size := by omega); (try have hggy : gy < wn.heap.size := by omega); (try have hggz : gz < wn.heap.size := by omega)))
        rw [add_less a b hs hl, res_ok]
        (simp (maxDischargeDepth := 8) [bodyPost, results, Tryd.results115, go_sem, *]; try (repeat (first | (with_reducible exact Below.refl _ _) | (with_reducible assumption) | (with_reducible refine Below.alloc ?_ (by first | (with_reducible exact Nat.le_refl _) | omega | (simp <;> omega)) _) | (with_reducible refine Below.setCell ?_ (by first | (with_reducible exact Nat.le_refl _) | omega | (simp <;> omega)) _) | (with_reducible refine Below.drew ?_) | (with_reducible refine bel_step (by assumption) ?_ (by first | (with_reducible exact Nat.le_refl _) | omega | (simp <;> omega))))))
    · go_wp2_with (first | (go_at_call 119; refine (fix_of _ _).mono ?_; rintro e wn ⟨rfl, hbn⟩; obtain ⟨hcn, hfn, hzn0, hzn1, hzn2, hzn3, hzn4, hzn5, hzn6, hzn7, hzn8⟩ := bcell hbn; (try simp only [World.size_drew] at hcn hfn hzn0 hzn1 hzn2 hzn3 hzn4 hzn5 hzn6 hzn7 hzn8); have hsn := hbn.size; (try simp at hsn); (try have hq0 : w.heap.size < wn.heap.size := by omega); (try have hq1 : w.heap.size + 1 < wn.heap.size := by omega); (try have hq2 : w.heap.size + 1 + 1 < wn.heap.size := by omega); (try have hq3 : w.heap.size + 1 + 1 + 1 < wn.heap.size := by omega); (try have hq4 : w.heap.size + 1 + 1 + 1 + 1 < wn.heap.size := by omega); (try have hq5 : w.heap.size + 1 + 1 + 1 + 1 + 1 < wn.heap.size := by omega); (try have hq6 : w.heap.size + 1 + 1 + 1 + 1 + 1 + 1 < wn.heap.size := by omega); (try have hq7 : w.heap.size + 1 + 1 + 1 + 1 + 1 + 1 + 1 < wn.heap.size := by omega); (try have hggx : gx < wn.heap.size := by omega); (try have hggy : gy < wn.heap.size := by omega); (try have hggz : gz < wn.heap.size := by omega)) | (go_at_call 142; refine (limb_Add _ _ _ _ _).mono ?_; rintro e wn ⟨rfl, hbn⟩; obtain ⟨hcn, hfn, hzn0, hzn1, hzn2, hzn3, hzn4, hzn5, hzn6, hzn7, hzn8⟩ := bcell hbn; (try simp only [World.size_drew] at hcn hfn hzn0 hzn1 hzn2 hzn3 hzn4 hzn5 hzn6 hzn7 hzn8); have hsn := hbn.size; (try simp at hsn); (try have hq0 : w.heap.size < wn.heap.size := by omega); (try have hq1 : w.heap.size + 1 < wn.heap.size := by omega); (try have hq2 : w.heap.size + 1 + 1 < wn.heap.size := by omega); (try have hq3 : w.heap.size + 1 + 1 + 1 < wn.heap.size := by omega); (try have hq4 : w.heap.size + 1 + 1 + 1 + 1 < wn.heap.size := by omega); (try have hq5 : w.heap.size + 1 + 1 + 1 + 1 + 1 < wn.heap.size := by omega); (try have hq6 : w.heap.size + 1 + 1 + 1 + 1 + 1 + 1 < wn.heap.size := by omega); (try have hq7 : w.heap.size + 1 + 1 + 1 + 1 + 1 + 1 + 1 < wn.heap.size := by omega); (try have hggx : gx < wn.heap.size := by omega); (try have hggy : gy < wn.heap.size := by omega); (try have hggz : gz < wn.heap.size := by omega)) | (go_at_call 124; refine (fix_wide _ _ _).mono ?_; rintro e wn ⟨rfl, hbn⟩; obtain ⟨hcn, hfn, hzn0, hzn1, hzn2, hzn3, hzn4, hzn5, hzn6, hzn7, hzn8⟩ := bcell hbn; (try simp only [World.size_drew] at hcn hfn hzn0 hzn1 hzn2 hzn3 hzn4 hzn5 hzn6 hzn7 hzn8); have hsn := hbn.size; (try simp at hsn); (try have hq0 : w.heap.size < wn.heap.size := by omega); (try have hq1 : w.heap.size + 1 < wn.heap.size := by omega); (try have hq2 : w.heap.size + 1 + 1 < wn.heap.size := by omega); (try have hq3 : w.heap.size + 1 + 1 + 1 < wn.heap.size := by omega); (try have hq4 : w.heap.size + 1 + 1 + 1 + 1 < wn.heap.size := by omega); (try have hq5 : w.heap.size + 1 + 1 + 1 + 1 + 1 < wn.heap.size := by omega); (try have hq6 : w.heap.size + 1 + 1 + 1 + 1 + 1 + 1 < wn.heap.size := by omega); (try have hq7 : w.heap.size + 1 + 1 + 1 + 1 + 1 + 1 + 1 < wn.heap.size := by omega); (try have hggx : gx < wn.heap.size := by omega); (try have hggy : gy < wn.heap.size := by omega); (try have hggz : gz < wn.heap.size := by omega)) | (go_at_call 120; refine (fix_told _ _ _ _ _ _).mono ?_; rintro e wn ⟨rfl, hbn⟩; obtain ⟨hcn, hfn, hzn0, hzn1, hzn2, hzn3, hzn4, hzn5, hzn6, hzn7, hzn8⟩ := bcell hbn; (try simp only [World.size_drew] at hcn hfn hzn0 hzn1 hzn2 hzn3 hzn4 hzn5 hzn6 hzn7 hzn8); have hsn := hbn.size; (try simp at hsn); (try have hq0 : w.heap.size < wn.heap.size := by omega); (try have hq1 : w.heap.size + 1 < wn.heap.size := by omega); (try have hq2 : w.heap.size + 1 + 1 < wn.heap.size := by omega); (try have hq3 : w.heap.size + 1 + 1 + 1 < wn.heap.size := by omega); (try have hq4 : w.heap.size + 1 + 1 + 1 + 1 < wn.heap.size := by omega); (try have hq5 : w.heap.size + 1 + 1 + 1 + 1 + 1 < wn.heap.size := by omega); (try have hq6 : w.heap.size + 1 + 1 + 1 + 1 + 1 + 1 < wn.heap.size := by omega); (try have hq7 : w.heap.size + 1 + 1 + 1 + 1 + 1 + 1 + 1 < wn.heap.size := by omega); (try have hggx : gx < wn.heap.size := by omega); (try have hggy : gy < wn.heap.size := by omega); (try have hggz : gz < wn.heap.size := by omega)))
      go_region_held3 (fun w' => w'.cell? ⟨gx, 2, none⟩ = some (.bool (neg a)) ∧ w'.cell? ⟨wn.heap.size, 0, none⟩ = some (.int .u64 (hi (mod2 (val2 (hi (mag a)) (lo (mag a)) + val2 (hi (mag b)) (lo (mag b)))))) ∧ w'.cell? ⟨wn.heap.size, 1, none⟩ = some (.int .u64 (lo (mod2 (val2 (hi (mag a)) (lo (mag a)) + val2 (hi (mag b)) (lo (mag b)))))))
        (simp (maxDischargeDepth := 8) [go_sem, *]) (first | (go_at_call 124; refine (fix_wide _ _ _).mono ?_; rintro e wn ⟨rfl, hbn⟩; obtain ⟨hcn, hfn, hzn0, hzn1, hzn2, hzn3, hzn4, hzn5, hzn6, hzn7, hzn8⟩ := bcell hbn; (try simp only [World.size_drew] at hcn hfn hzn0 hzn1 hzn2 hzn3 hzn4 hzn5 hzn6 hzn7 hzn8); have hsn := hbn.size; (try simp at hsn); (try have hq0 : w.heap.size < wn.heap.size := by omega); (try have hq1 : w.heap.size + 1 < wn.heap.size := by omega); (try have hq2 : w.heap.size + 1 + 1 < wn.heap.size := by omega); (try have hq3 : w.heap.size + 1 + 1 + 1 < wn.heap.size := by omega); (try have hq4 : w.heap.size + 1 + 1 + 1 + 1 < wn.heap.size := by omega); (try have hq5 : w.heap.size + 1 + 1 + 1 + 1 + 1 < wn.heap.size := by omega); (try have hq6 : w.heap.size + 1 + 1 + 1 + 1 + 1 + 1 < wn.heap.size := by omega); (try have hq7 : w.heap.size + 1 + 1 + 1 + 1 + 1 + 1 + 1 < wn.heap.size := by omega); (try have hggx : gx < wn.heap.size := by omega); (try have hggy : gy < wn.heap.size := by omega); (try have hggz : gz < wn.heap.size := by omega)) | (go_at_call 120; refine (fix_told _ _ _ _ _ _).mono ?_; rintro e wn ⟨rfl, hbn⟩; obtain ⟨hcn, hfn, hzn0, hzn1, hzn2, hzn3, hzn4, hzn5, hzn6, hzn7, hzn8⟩ := bcell hbn; (try simp only [World.size_drew] at hcn hfn hzn0 hzn1 hzn2 hzn3 hzn4 hzn5 hzn6 hzn7 hzn8); have hsn := hbn.size; (try simp at hsn); (try have hq0 : w.heap.size < wn.heap.size := by omega); (try have hq1 : w.heap.size + 1 < wn.heap.size := by omega); (try have hq2 : w.heap.size + 1 + 1 < wn.heap.size := by omega); (try have hq3 : w.heap.size + 1 + 1 + 1 < wn.heap.size := by omega); (try have hq4 : w.heap.size + 1 + 1 + 1 + 1 < wn.heap.size := by omega); (try have hq5 : w.heap.size + 1 + 1 + 1 + 1 + 1 < wn.heap.size := by omega); (try have hq6 : w.heap.size + 1 + 1 + 1 + 1 + 1 + 1 < wn.heap.size := by omega); (try have hq7 : w.heap.size + 1 + 1 + 1 + 1 + 1 + 1 + 1 < wn.heap.size := by omega); (try have hggx : gx < wn.heap.size := by omega); (try have hggy : gy < wn.heap.size := by omega); (try have hggz : gz < wn.heap.size := by omega)))
      all_goals go_wp2_with fail
      all_goals (rw [← add_same a b (by simpa using hs)])
      all_goals (simp (maxDischargeDepth := 8) [bodyPost, results, Tryd.results115, go_sem, *]; try (repeat (first | (with_reducible exact Below.refl _ _) | (with_reducible assumption) | (with_reducible refine Below.alloc ?_ (by first | (with_reducible exact Nat.le_refl _) | omega | (simp <;> omega)) _) | (with_reducible refine Below.setCell ?_ (by first | (with_reducible exact Nat.le_refl _) | omega | (simp <;> omega)) _) | (with_reducible refine Below.drew ?_) | (with_reducible refine bel_step (by assumption) ?_ (by first | (with_reducible exact Nat.le_refl _) | omega | (simp <;> omega))))))
end Go.Proofs.YtpbklojdmkpkcaaDoor
/- fix: products, whole numbers, differences. -/
namespace Go.Proofs.YtpbklojdmkpkcaaDoor
open Go.RowKit
set_option linter.unusedSimpArgs false
set_option linter.unusedVariables false
/-- A product: the nearest, of two as near that farther from nought; if there is one. -/
def mulF (a b : Int) : Except Int Int := tell ((mag a * mag b + 9223372036854775808) / 18446744073709551616) (neg a != neg b)
theorem mag_nn (a : Int) : 0 ≤ mag a := by unfold mag; split <;> omega
theorem mag_lt (a : Int) [h : F a] : mag a < 170141183460469231731687303715884105728 := by have := h.h; unfold mag; split <;> omega
theorem mulF_F {a b r : Int} (h : mulF a b = .ok r) : F r := by
  unfold mulF at h
  refine tell_F ?_ h
  have := Int.mul_nonneg (mag_nn a) (mag_nn b)
  omega
theorem shr64 (n : Int) : val4 0 (hi (hi2 n)) (lo (hi2 n)) (hi (lo2 n)) = n / 18446744073709551616 := by
  unfold val4; rw [val2_0]; unfold val2 hi lo hi2 lo2; omega
theorem mag_Q (a b : Int) [F a] [F b] : 0 ≤ mag a * mag b ∧ mag a * mag b ≤ 28948022309329048855892746252171976963317496166410141009864396001978282409984 := by
  refine ⟨Int.mul_nonneg (mag_nn a) (mag_nn b), ?_⟩
  have h1 := mag_lt a; have h2 := mag_lt b
  have : mag a * mag b ≤ 170141183460469231731687303715884105728 * 170141183460469231731687303715884105728 := Int.mul_le_mul (by omega) (by omega) (mag_nn b) (by decide)
  omega
theorem mul_tell (a b : Int) [F a] [F b] :
    tell (val4 0 (hi (hi2 (mod4 (val4 (hi (hi2 (val2 (hi (mag a)) (lo (mag a)) * val2 (hi (mag b)) (lo (mag b))))) (lo (hi2 (val2 (hi (mag a)) (lo (mag a)) * val2 (hi (mag b)) (lo (mag b)))))
      (hi (lo2 (val2 (hi (mag a)) (lo (mag a)) * val2 (hi (mag b)) (lo (mag b))))) (lo (lo2 (val2 (hi (mag a)) (lo (mag a)) * val2 (hi (mag b)) (lo (mag b))))) + 9223372036854775808))))
      (lo (hi2 (mod4 (val4 (hi (hi2 (val2 (hi (mag a)) (lo (mag a)) * val2 (hi (mag b)) (lo (mag b))))) (lo (hi2 (val2 (hi (mag a)) (lo (mag a)) * val2 (hi (mag b)) (lo (mag b)))))
      (hi (lo2 (val2 (hi (mag a)) (lo (mag a)) * val2 (hi (mag b)) (lo (mag b))))) (lo (lo2 (val2 (hi (mag a)) (lo (mag a)) * val2 (hi (mag b)) (lo (mag b))))) + 9223372036854775808))))
      (hi (lo2 (mod4 (val4 (hi (hi2 (val2 (hi (mag a)) (lo (mag a)) * val2 (hi (mag b)) (lo (mag b))))) (lo (hi2 (val2 (hi (mag a)) (lo (mag a)) * val2 (hi (mag b)) (lo (mag b)))))
      (hi (lo2 (val2 (hi (mag a)) (lo (mag a)) * val2 (hi (mag b)) (lo (mag b))))) (lo (lo2 (val2 (hi (mag a)) (lo (mag a)) * val2 (hi (mag b)) (lo (mag b))))) + 9223372036854775808))))) (!(neg a == neg b)) = mulF a b := by
  have := mag_Q a b
  rw [val4_of, val2_hi_lo, val2_hi_lo, shr64, mod4_of _ (h := ⟨by omega⟩)]
  rfl
set_option maxHeartbeats 3200000 in
theorem fix_Mul (a b : Int) [F a] [F b] : Gives 82 #[fx a, fx b] (res (mulF a b)) := by
  intro w
  have hq := mag_Q a b
  haveI : Q (val2 (hi (mag a)) (lo (mag a)) * val2 (hi (mag b)) (lo (mag b))) := ⟨by rw [val2_hi_lo, val2_hi_lo]; omega⟩
  clear hq
  go_enter Tryd.func82, Tryd.ntmps82
  go_upto_region 1 with fail
  go_cut [6, 7] (fun s6 s7 wx => Sizes a b (w.heap.size + 1 + 1) w s6 s7 wx)
  case first =>
    go_region_held3 (fun w' => w'.cell? ⟨w.heap.size, 0, none⟩ = some (.int .i64 (hi a)) ∧ w'.cell? ⟨w.heap.size, 1, none⟩ = some (.int .u64 (lo a)) ∧ w'.cell? ⟨w.heap.size + 1, 0, none⟩ = some (.int .i64 (hi b)) ∧ w'.cell? ⟨w.heap.size + 1, 1, none⟩ = some (.int .u64 (lo b))) (simp (maxDischargeDepth := 8) [go_sem, *])
      (first | (go_at_call 119; refine (fix_of _ _).mono ?_; rintro e wn ⟨rfl, hbn⟩; obtain ⟨hcn, hfn, hzn0, hzn1, hzn2, hzn3, hzn4, hzn5, hzn6, hzn7, hzn8⟩ := bcell hbn; (try simp only [World.size_drew] at hcn hfn hzn0 hzn1 hzn2 hzn3 hzn4 hzn5 hzn6 hzn7 hzn8); have hsn := hbn.size; (try simp at hsn); (try have hq0 : w.heap.size < wn.heap.size := by omega); (try have hq1 : w.heap.size + 1 < wn.heap.size := by omega); (try have hq2 : w.heap.size + 1 + 1 < wn.heap.size := by omega); (try have hq3 : w.heap.size + 1 + 1 + 1 < wn.heap.size := by omega); (try have hq4 : w.heap.size + 1 + 1 + 1 + 1 < wn.heap.size := by omega); (try have hq5 : w.heap.size + 1 + 1 + 1 + 1 + 1 < wn.heap.size := by omega); (try have hq6 : w.heap.size + 1 + 1 + 1 + 1 + 1 + 1 < wn.heap.size := by omega); (try have hq7 : w.heap.size + 1 + 1 + 1 + 1 + 1 + 1 + 1 < wn.heap.size := by omega); (try have hggx : gx < wn.heap.size := by omega); (try have hggy : gy < wn.heap.size := by omega); (try have hggz : gz < wn.heap.size := by omega)))
    all_goals (go_wp2_with fail; go_meet; unfold Sizes; exact ⟨_, _, rfl, rfl, by (first | omega | (simp <;> omega)), by (first | omega | (simp <;> omega)), by (first | omega | (simp <;> omega)), by (first | omega | (simp <;> omega)), by (first | omega | (simp <;> omega)), by (repeat (first | (with_reducible exact Below.refl _ _) | (with_reducible assumption) | (with_reducible refine Below.alloc ?_ (by first | (with_reducible exact Nat.le_refl _) | omega | (simp <;> omega)) _) | (with_reducible refine Below.setCell ?_ (by first | (with_reducible exact Nat.le_refl _) | omega | (simp <;> omega)) _) | (with_reducible refine Below.drew ?_) | (with_reducible refine bel_step (by assumption) ?_ (by first | (with_reducible exact Nat.le_refl _) | omega | (simp <;> omega))))), by (simp (maxDischargeDepth := 8) [go_sem, *]; done), by (simp (maxDischargeDepth := 8) [go_sem, *]; done), by (simp (maxDischargeDepth := 8) [go_sem, *]; done), by (simp (maxDischargeDepth := 8) [go_sem, *]; done), by (simp (maxDischargeDepth := 8) [go_sem, *]; done), by (simp (maxDischargeDepth := 8) [go_sem, *]; done), by (simp (maxDischargeDepth := 8) [go_sem, *]; done), by (simp (maxDischargeDepth := 8) [go_sem, *]; done), by (simp (maxDischargeDepth := 8) [go_sem, *]; done), by (simp (maxDischargeDepth := 8) [go_sem, *]; done)⟩)
  case rest =>
    obtain ⟨gx, gy, rfl, rfl, k1, k2, k3, k4, k5, hbx, a0, a1, a2, b0, b1, b2, c0, c1, f0, f1⟩ := hcut
    go_wp2_with fail
    go_region_held3 (fun w' => w'.cell? ⟨gx, 0, none⟩ = some (.int .u64 (hi (mag a))) ∧ w'.cell? ⟨gx, 1, none⟩ = some (.int .u64 (lo (mag a))) ∧ w'.cell? ⟨gx, 2, none⟩ = some (.bool (neg a)) ∧
        w'.cell? ⟨gy, 0, none⟩ = some (.int .u64 (hi (mag b))) ∧ w'.cell? ⟨gy, 1, none⟩ = some (.int .u64 (lo (mag b))) ∧ w'.cell? ⟨gy, 2, none⟩ = some (.bool (neg b)))
      (simp (maxDischargeDepth := 8) [go_sem, *]) (first | (go_at_call 123; refine (limb_Mul _ _ _ _ _).mono ?_; rintro e wn ⟨rfl, hbn⟩; obtain ⟨hcn, hfn, hzn0, hzn1, hzn2, hzn3, hzn4, hzn5, hzn6, hzn7, hzn8⟩ := bcell hbn; (try simp only [World.size_drew] at hcn hfn hzn0 hzn1 hzn2 hzn3 hzn4 hzn5 hzn6 hzn7 hzn8); have hsn := hbn.size; (try simp at hsn); (try have hq0 : w.heap.size < wn.heap.size := by omega); (try have hq1 : w.heap.size + 1 < wn.heap.size := by omega); (try have hq2 : w.heap.size + 1 + 1 < wn.heap.size := by omega); (try have hq3 : w.heap.size + 1 + 1 + 1 < wn.heap.size := by omega); (try have hq4 : w.heap.size + 1 + 1 + 1 + 1 < wn.heap.size := by omega); (try have hq5 : w.heap.size + 1 + 1 + 1 + 1 + 1 < wn.heap.size := by omega); (try have hq6 : w.heap.size + 1 + 1 + 1 + 1 + 1 + 1 < wn.heap.size := by omega); (try have hq7 : w.heap.size + 1 + 1 + 1 + 1 + 1 + 1 + 1 < wn.heap.size := by omega); (try have hggx : gx < wn.heap.size := by omega); (try have hggy : gy < wn.heap.size := by omega); (try have hggz : gz < wn.heap.size := by omega)) | (go_at_call 122; refine (fix_more_63 _ _ _ _ _).mono ?_; rintro e wn ⟨rfl, hbn⟩; obtain ⟨hcn, hfn, hzn0, hzn1, hzn2, hzn3, hzn4, hzn5, hzn6, hzn7, hzn8⟩ := bcell hbn; (try simp only [World.size_drew] at hcn hfn hzn0 hzn1 hzn2 hzn3 hzn4 hzn5 hzn6 hzn7 hzn8); have hsn := hbn.size; (try simp at hsn); (try have hq0 : w.heap.size < wn.heap.size := by omega); (try have hq1 : w.heap.size + 1 < wn.heap.size := by omega); (try have hq2 : w.heap.size + 1 + 1 < wn.heap.size := by omega); (try have hq3 : w.heap.size + 1 + 1 + 1 < wn.heap.size := by omega); (try have hq4 : w.heap.size + 1 + 1 + 1 + 1 < wn.heap.size := by omega); (try have hq5 : w.heap.size + 1 + 1 + 1 + 1 + 1 < wn.heap.size := by omega); (try have hq6 : w.heap.size + 1 + 1 + 1 + 1 + 1 + 1 < wn.heap.size := by omega); (try have hq7 : w.heap.size + 1 + 1 + 1 + 1 + 1 + 1 + 1 < wn.heap.size := by omega); (try have hggx : gx < wn.heap.size := by omega); (try have hggy : gy < wn.heap.size := by omega); (try have hggz : gz < wn.heap.size := by omega)) | (go_at_call 121; refine (limb_Shr64 _ _ _ _ _).mono ?_; rintro e wn ⟨rfl, hbn⟩; obtain ⟨hcn, hfn, hzn0, hzn1, hzn2, hzn3, hzn4, hzn5, hzn6, hzn7, hzn8⟩ := bcell hbn; (try simp only [World.size_drew] at hcn hfn hzn0 hzn1 hzn2 hzn3 hzn4 hzn5 hzn6 hzn7 hzn8); have hsn := hbn.size; (try simp at hsn); (try have hq0 : w.heap.size < wn.heap.size := by omega); (try have hq1 : w.heap.size + 1 < wn.heap.size := by omega); (try have hq2 : w.heap.size + 1 + 1 < wn.heap.size := by omega); (try have hq3 : w.heap.size + 1 + 1 + 1 < wn.heap.size := by omega); (try have hq4 : w.heap.size + 1 + 1 + 1 + 1 < wn.heap.size := by omega); (try have hq5 : w.heap.size + 1 + 1 + 1 + 1 + 1 < wn.heap.size := by omega); (try have hq6 : w.heap.size + 1 + 1 + 1 + 1 + 1 + 1 < wn.heap.size := by omega); (try have hq7 : w.heap.size + 1 + 1 + 1 + 1 + 1 + 1 + 1 < wn.heap.size := by omega); (try have hggx : gx < wn.heap.size := by omega); (try have hggy : gy < wn.heap.size := by omega); (try have hggz : gz < wn.heap.size := by omega)) | (go_at_call 120; refine (fix_told _ _ _ _ _ _).mono ?_; rintro e wn ⟨rfl, hbn⟩; obtain ⟨hcn, hfn, hzn0, hzn1, hzn2, hzn3, hzn4, hzn5, hzn6, hzn7, hzn8⟩ := bcell hbn; (try simp only [World.size_drew] at hcn hfn hzn0 hzn1 hzn2 hzn3 hzn4 hzn5 hzn6 hzn7 hzn8); have hsn := hbn.size; (try simp at hsn); (try have hq0 : w.heap.size < wn.heap.size := by omega); (try have hq1 : w.heap.size + 1 < wn.heap.size := by omega); (try have hq2 : w.heap.size + 1 + 1 < wn.heap.size := by omega); (try have hq3 : w.heap.size + 1 + 1 + 1 < wn.heap.size := by omega); (try have hq4 : w.heap.size + 1 + 1 + 1 + 1 < wn.heap.size := by omega); (try have hq5 : w.heap.size + 1 + 1 + 1 + 1 + 1 < wn.heap.size := by omega); (try have hq6 : w.heap.size + 1 + 1 + 1 + 1 + 1 + 1 < wn.heap.size := by omega); (try have hq7 : w.heap.size + 1 + 1 + 1 + 1 + 1 + 1 + 1 < wn.heap.size := by omega); (try have hggx : gx < wn.heap.size := by omega); (try have hggy : gy < wn.heap.size := by omega); (try have hggz : gz < wn.heap.size := by omega)))
    all_goals go_wp2_with fail
    all_goals (rw [← mul_tell a b])
    all_goals (simp (maxDischargeDepth := 8) [bodyPost, results, Tryd.results82, go_sem, *]; try (repeat (first | (with_reducible exact Below.refl _ _) | (with_reducible assumption) | (with_reducible refine Below.alloc ?_ (by first | (with_reducible exact Nat.le_refl _) | omega | (simp <;> omega)) _) | (with_reducible refine Below.setCell ?_ (by first | (with_reducible exact Nat.le_refl _) | omega | (simp <;> omega)) _) | (with_reducible refine Below.drew ?_) | (with_reducible refine bel_step (by assumption) ?_ (by first | (with_reducible exact Nat.le_refl _) | omega | (simp <;> omega))))))
set_option maxHeartbeats 800000 in
theorem fix_Int (n : Int) (h : -9223372036854775807 ≤ n ∧ n ≤ 9223372036854775807) : Gives 64 #[.int .i64 n] (fx (n * 18446744073709551616)) := by
  intro w
  have e1 : hi (n * 18446744073709551616) = n := by unfold hi; omega
  have e2 : lo (n * 18446744073709551616) = 0 := by unfold lo; omega
  unfold fx
  rw [e1, e2]
  clear e1 e2
  go_enter Tryd.func64, Tryd.ntmps64
  go_wp2
  rw [show max n (-9223372036854775807) = n from by omega]
  (simp (maxDischargeDepth := 8) [bodyPost, results, Tryd.results64, go_sem, *]; try (repeat (first | (with_reducible exact Below.refl _ _) | (with_reducible assumption) | (with_reducible refine Below.alloc ?_ (by first | (with_reducible exact Nat.le_refl _) | omega | (simp <;> omega)) _) | (with_reducible refine Below.setCell ?_ (by first | (with_reducible exact Nat.le_refl _) | omega | (simp <;> omega)) _) | (with_reducible refine Below.drew ?_) | (with_reducible refine bel_step (by assumption) ?_ (by first | (with_reducible exact Nat.le_refl _) | omega | (simp <;> omega))))))
set_option maxHeartbeats 3200000 in
theorem fix_Sub (a b : Int) [F a] [F b] : Gives 83 #[fx a, fx b] (res (subF a b)) := by
  intro w
  unfold subF
  go_enter Tryd.func83, Tryd.ntmps83
  go_wp2_with fail
  go_region_held3 (fun w' => w'.cell? ⟨w.heap.size, 0, none⟩ = some (.int .i64 (hi a)) ∧ w'.cell? ⟨w.heap.size, 1, none⟩ = some (.int .u64 (lo a)) ∧ w'.cell? ⟨w.heap.size + 1, 0, none⟩ = some (.int .i64 (hi b)) ∧ w'.cell? ⟨w.heap.size + 1, 1, none⟩ = some (.int .u64 (lo b)))
    (simp (maxDischargeDepth := 8) [go_sem, *]) (first | (go_at_call 107; refine (fix_Neg _ _).mono ?_; rintro e wn ⟨rfl, hbn⟩; obtain ⟨hcn, hfn, hzn0, hzn1, hzn2, hzn3, hzn4, hzn5, hzn6, hzn7, hzn8⟩ := bcell hbn; (try simp only [World.size_drew] at hcn hfn hzn0 hzn1 hzn2 hzn3 hzn4 hzn5 hzn6 hzn7 hzn8); have hsn := hbn.size; (try simp at hsn); (try have hq0 : w.heap.size < wn.heap.size := by omega); (try have hq1 : w.heap.size + 1 < wn.heap.size := by omega); (try have hq2 : w.heap.size + 1 + 1 < wn.heap.size := by omega); (try have hq3 : w.heap.size + 1 + 1 + 1 < wn.heap.size := by omega); (try have hq4 : w.heap.size + 1 + 1 + 1 + 1 < wn.heap.size := by omega); (try have hq5 : w.heap.size + 1 + 1 + 1 + 1 + 1 < wn.heap.size := by omega); (try have hq6 : w.heap.size + 1 + 1 + 1 + 1 + 1 + 1 < wn.heap.size := by omega); (try have hq7 : w.heap.size + 1 + 1 + 1 + 1 + 1 + 1 + 1 < wn.heap.size := by omega); (try have hggx : gx < wn.heap.size := by omega); (try have hggy : gy < wn.heap.size := by omega); (try have hggz : gz < wn.heap.size := by omega)) | (go_at_call 115; refine (fix_Add _ _ _).mono ?_; rintro e wn ⟨rfl, hbn⟩; obtain ⟨hcn, hfn, hzn0, hzn1, hzn2, hzn3, hzn4, hzn5, hzn6, hzn7, hzn8⟩ := bcell hbn; (try simp only [World.size_drew] at hcn hfn hzn0 hzn1 hzn2 hzn3 hzn4 hzn5 hzn6 hzn7 hzn8); have hsn := hbn.size; (try simp at hsn); (try have hq0 : w.heap.size < wn.heap.size := by omega); (try have hq1 : w.heap.size + 1 < wn.heap.size := by omega); (try have hq2 : w.heap.size + 1 + 1 < wn.heap.size := by omega); (try have hq3 : w.heap.size + 1 + 1 + 1 < wn.heap.size := by omega); (try have hq4 : w.heap.size + 1 + 1 + 1 + 1 < wn.heap.size := by omega); (try have hq5 : w.heap.size + 1 + 1 + 1 + 1 + 1 < wn.heap.size := by omega); (try have hq6 : w.heap.size + 1 + 1 + 1 + 1 + 1 + 1 < wn.heap.size := by omega); (try have hq7 : w.heap.size + 1 + 1 + 1 + 1 + 1 + 1 + 1 < wn.heap.size := by omega); (try have hggx : gx < wn.heap.size := by omega); (try have hggy : gy < wn.heap.size := by omega); (try have hggz : gz < wn.heap.size := by omega)))
  all_goals go_wp2_with fail
  all_goals (simp (maxDischargeDepth := 8) [bodyPost, results, Tryd.results83, go_sem, *]; try (repeat (first | (with_reducible exact Below.refl _ _) | (with_reducible assumption) | (with_reducible refine Below.alloc ?_ (by first | (with_reducible exact Nat.le_refl _) | omega | (simp <;> omega)) _) | (with_reducible refine Below.setCell ?_ (by first | (with_reducible exact Nat.le_refl _) | omega | (simp <;> omega)) _) | (with_reducible refine Below.drew ?_) | (with_reducible refine bel_step (by assumption) ?_ (by first | (with_reducible exact Nat.le_refl _) | omega | (simp <;> omega))))))
end Go.Proofs.YtpbklojdmkpkcaaDoor
/- vec: both numbers of a way. -/
namespace Go.Proofs.YtpbklojdmkpkcaaDoor
open Go.RowKit
set_option linter.unusedSimpArgs false
set_option linter.unusedVariables false
/-- An error is never nought. -/
class E {α : Type} (x : Except Int α) : Prop where
  h : ∀ e, x = .error e → e ≠ 0
instance (n : Int) (b : Bool) : E (tell n b) := ⟨fun e h => by unfold tell at h; split at h <;> cases h; decide⟩
instance (a b : Int) : E (addF a b) := ⟨fun e h => by unfold addF at h; split at h <;> cases h; decide⟩
instance (a b : Int) : E (subF a b) := by unfold subF; infer_instance
instance (a b : Int) : E (mulF a b) := by unfold mulF; infer_instance
theorem E_ok {x : Except Int Int} [hx : E x] (h : (errF x != 0) = false) : x = .ok (valF x) := by
  cases x with
  | ok r => rfl
  | error e => have := hx.h e rfl; simp [errF] at h; exact absurd h this
theorem E_err {x : Except Int Int} (h : (errF x != 0) = true) : x = .error (errF x) := by
  cases x with
  | ok r => simp [errF] at h
  | error e => rfl
/-- A way with an error. -/
def valX : Except Int (Int × Int) → Int
  | .ok r => r.1
  | .error _ => 0
def valY : Except Int (Int × Int) → Int
  | .ok r => r.2
  | .error _ => 0
def errW : Except Int (Int × Int) → Int
  | .ok _ => 0
  | .error e => e
abbrev way (x : Except Int (Int × Int)) : Value := .tuple #[vec (valX x) (valY x), .int .i64 (errW x)]
theorem way_ok (x y : Int) : way (.ok (x, y)) = .tuple #[vec x y, .int .i64 0] := rfl
theorem way_error (e : Int) : way (.error e) = .tuple #[.agg #[.int .i64 0, .int .u64 0, .int .i64 0, .int .u64 0], .int .i64 e] := by
  unfold way vec; simp only [valX, valY, errW]; rw [hi_0, lo_0]
def both : Except Int Int → Except Int Int → Except Int (Int × Int)
  | .ok x, .ok y => .ok (x, y)
  | .ok _, .error e => .error e
  | .error e, _ => .error e
instance (x y : Except Int Int) [hx : E x] [hy : E y] : E (both x y) := ⟨fun e h => by
  cases x <;> cases y <;> simp [both] at h
  · exact h ▸ hx.h _ rfl
  · exact h ▸ hx.h _ rfl
  · exact h ▸ hy.h _ rfl⟩
theorem both_ok {x y : Except Int Int} [E x] [E y] (h1 : (errF x != 0) = false) (h2 : (errF y != 0) = false) : both x y = .ok (valF x, valF y) := by
  rw [E_ok h1, E_ok h2]; rfl
theorem both_err1 {x y : Except Int Int} (h1 : (errF x != 0) = true) : both x y = .error (errF x) := by
  rw [E_err h1]; rfl
theorem both_err2 {x y : Except Int Int} [E x] (h1 : (errF x != 0) = false) (h2 : (errF y != 0) = true) : both x y = .error (errF y) := by
  rw [E_ok h1, E_err h2]; rfl
theorem EW_ok {x : Except Int (Int × Int)} [hx : E x] (h : (errW x != 0) = false) : x = .ok (valX x, valY x) := by
  cases x with
  | ok r => rfl
  | error e => have := hx.h e rfl; simp [errW] at h; exact absurd h this
theorem EW_err {x : Except Int (Int × Int)} (h : (errW x != 0) = true) : x = .error (errW x) := by
  cases x with
  | ok r => simp [errW] at h
  | error e => rfl
set_option maxHeartbeats 1600000 in
theorem each_Mul (ax ay bx b_y : Int) [F ax] [F ay] [F bx] [F b_y] : Gives 127 #[vec ax ay, vec bx b_y, .func (.func 82) #[] #[]] (way (both (mulF ax bx) (mulF ay b_y))) := by
  intro w
  go_enter Tryd.func127, Tryd.ntmps127
  go_wp2_with (go_at_call 82; refine (fix_Mul _ _ _).mono ?_; rintro e wn ⟨rfl, hbn⟩; obtain ⟨hcn, hfn, hzn0, hzn1, hzn2, hzn3, hzn4, hzn5, hzn6, hzn7, hzn8⟩ := bcell hbn; (try simp only [World.size_drew] at hcn hfn hzn0 hzn1 hzn2 hzn3 hzn4 hzn5 hzn6 hzn7 hzn8); have hsn := hbn.size; (try simp at hsn); (try have hq0 : w.heap.size < wn.heap.size := by omega); (try have hq1 : w.heap.size + 1 < wn.heap.size := by omega); (try have hq2 : w.heap.size + 1 + 1 < wn.heap.size := by omega); (try have hq3 : w.heap.size + 1 + 1 + 1 < wn.heap.size := by omega); (try have hq4 : w.heap.size + 1 + 1 + 1 + 1 < wn.heap.size := by omega); (try have hq5 : w.heap.size + 1 + 1 + 1 + 1 + 1 < wn.heap.size := by omega); (try have hq6 : w.heap.size + 1 + 1 + 1 + 1 + 1 + 1 < wn.heap.size := by omega); (try have hq7 : w.heap.size + 1 + 1 + 1 + 1 + 1 + 1 + 1 < wn.heap.size := by omega); (try have hggx : gx < wn.heap.size := by omega); (try have hggy : gy < wn.heap.size := by omega); (try have hggz : gz < wn.heap.size := by omega))
  · rw [both_err1 ‹_›, way_error]
    (simp (maxDischargeDepth := 8) [bodyPost, results, Tryd.results127, go_sem, *]; try (repeat (first | (with_reducible exact Below.refl _ _) | (with_reducible assumption) | (with_reducible refine Below.alloc ?_ (by first | (with_reducible exact Nat.le_refl _) | omega | (simp <;> omega)) _) | (with_reducible refine Below.setCell ?_ (by first | (with_reducible exact Nat.le_refl _) | omega | (simp <;> omega)) _) | (with_reducible refine Below.drew ?_) | (with_reducible refine bel_step (by assumption) ?_ (by first | (with_reducible exact Nat.le_refl _) | omega | (simp <;> omega))))))
  · rw [both_err2 (by assumption) (by assumption), way_error]
    (simp (maxDischargeDepth := 8) [bodyPost, results, Tryd.results127, go_sem, *]; try (repeat (first | (with_reducible exact Below.refl _ _) | (with_reducible assumption) | (with_reducible refine Below.alloc ?_ (by first | (with_reducible exact Nat.le_refl _) | omega | (simp <;> omega)) _) | (with_reducible refine Below.setCell ?_ (by first | (with_reducible exact Nat.le_refl _) | omega | (simp <;> omega)) _) | (with_reducible refine Below.drew ?_) | (with_reducible refine bel_step (by assumption) ?_ (by first | (with_reducible exact Nat.le_refl _) | omega | (simp <;> omega))))))
  · rw [both_ok (by assumption) (by assumption), way_ok]
    (simp (maxDischargeDepth := 8) [bodyPost, results, Tryd.results127, go_sem, *]; try (repeat (first | (with_reducible exact Below.refl _ _) | (with_reducible assumption) | (with_reducible refine Below.alloc ?_ (by first | (with_reducible exact Nat.le_refl _) | omega | (simp <;> omega)) _) | (with_reducible refine Below.setCell ?_ (by first | (with_reducible exact Nat.le_refl _) | omega | (simp <;> omega)) _) | (with_reducible refine Below.drew ?_) | (with_reducible refine bel_step (by assumption) ?_ (by first | (with_reducible exact Nat.le_refl _) | omega | (simp <;> omega))))))
set_option maxHeartbeats 1600000 in
theorem each_Add (ax ay bx b_y : Int) [F ax] [F ay] [F bx] [F b_y] : Gives 127 #[vec ax ay, vec bx b_y, .func (.func 115) #[] #[]] (way (both (addF ax bx) (addF ay b_y))) := by
  intro w
  go_enter Tryd.func127, Tryd.ntmps127
  go_wp2_with (go_at_call 115; refine (fix_Add _ _ _).mono ?_; rintro e wn ⟨rfl, hbn⟩; obtain ⟨hcn, hfn, hzn0, hzn1, hzn2, hzn3, hzn4, hzn5, hzn6, hzn7, hzn8⟩ := bcell hbn; (try simp only [World.size_drew] at hcn hfn hzn0 hzn1 hzn2 hzn3 hzn4 hzn5 hzn6 hzn7 hzn8); have hsn := hbn.size; (try simp at hsn); (try have hq0 : w.heap.size < wn.heap.size := by omega); (try have hq1 : w.heap.size + 1 < wn.heap.size := by omega); (try have hq2 : w.heap.size + 1 + 1 < wn.heap.size := by omega); (try have hq3 : w.heap.size + 1 + 1 + 1 < wn.heap.size := by omega); (try have hq4 : w.heap.size + 1 + 1 + 1 + 1 < wn.heap.size := by omega); (try have hq5 : w.heap.size + 1 + 1 + 1 + 1 + 1 < wn.heap.size := by omega); (try have hq6 : w.heap.size + 1 + 1 + 1 + 1 + 1 + 1 < wn.heap.size := by omega); (try have hq7 : w.heap.size + 1 + 1 + 1 + 1 + 1 + 1 + 1 < wn.heap.size := by omega); (try have hggx : gx < wn.heap.size := by omega); (try have hggy : gy < wn.heap.size := by omega); (try have hggz : gz < wn.heap.size := by omega))
  · rw [both_err1 ‹_›, way_error]
    (simp (maxDischargeDepth := 8) [bodyPost, results, Tryd.results127, go_sem, *]; try (repeat (first | (with_reducible exact Below.refl _ _) | (with_reducible assumption) | (with_reducible refine Below.alloc ?_ (by first | (with_reducible exact Nat.le_refl _) | omega | (simp <;> omega)) _) | (with_reducible refine Below.setCell ?_ (by first | (with_reducible exact Nat.le_refl _) | omega | (simp <;> omega)) _) | (with_reducible refine Below.drew ?_) | (with_reducible refine bel_step (by assumption) ?_ (by first | (with_reducible exact Nat.le_refl _) | omega | (simp <;> omega))))))
  · rw [both_err2 (by assumption) (by assumption), way_error]
    (simp (maxDischargeDepth := 8) [bodyPost, results, Tryd.results127, go_sem, *]; try (repeat (first | (with_reducible exact Below.refl _ _) | (with_reducible assumption) | (with_reducible refine Below.alloc ?_ (by first | (with_reducible exact Nat.le_refl _) | omega | (simp <;> omega)) _) | (with_reducible refine Below.setCell ?_ (by first | (with_reducible exact Nat.le_refl _) | omega | (simp <;> omega)) _) | (with_reducible refine Below.drew ?_) | (with_reducible refine bel_step (by assumption) ?_ (by first | (with_reducible exact Nat.le_refl _) | omega | (simp <;> omega))))))
  · rw [both_ok (by assumption) (by assumption), way_ok]
    (simp (maxDischargeDepth := 8) [bodyPost, results, Tryd.results127, go_sem, *]; try (repeat (first | (with_reducible exact Below.refl _ _) | (with_reducible assumption) | (with_reducible refine Below.alloc ?_ (by first | (with_reducible exact Nat.le_refl _) | omega | (simp <;> omega)) _) | (with_reducible refine Below.setCell ?_ (by first | (with_reducible exact Nat.le_refl _) | omega | (simp <;> omega)) _) | (with_reducible refine Below.drew ?_) | (with_reducible refine bel_step (by assumption) ?_ (by first | (with_reducible exact Nat.le_refl _) | omega | (simp <;> omega))))))
set_option maxHeartbeats 1600000 in
theorem each_Sub (ax ay bx b_y : Int) [F ax] [F ay] [F bx] [F b_y] : Gives 127 #[vec ax ay, vec bx b_y, .func (.func 83) #[] #[]] (way (both (subF ax bx) (subF ay b_y))) := by
  intro w
  go_enter Tryd.func127, Tryd.ntmps127
  go_wp2_with (go_at_call 83; refine (fix_Sub _ _ _).mono ?_; rintro e wn ⟨rfl, hbn⟩; obtain ⟨hcn, hfn, hzn0, hzn1, hzn2, hzn3, hzn4, hzn5, hzn6, hzn7, hzn8⟩ := bcell hbn; (try simp only [World.size_drew] at hcn hfn hzn0 hzn1 hzn2 hzn3 hzn4 hzn5 hzn6 hzn7 hzn8); have hsn := hbn.size; (try simp at hsn); (try have hq0 : w.heap.size < wn.heap.size := by omega); (try have hq1 : w.heap.size + 1 < wn.heap.size := by omega); (try have hq2 : w.heap.size + 1 + 1 < wn.heap.size := by omega); (try have hq3 : w.heap.size + 1 + 1 + 1 < wn.heap.size := by omega); (try have hq4 : w.heap.size + 1 + 1 + 1 + 1 < wn.heap.size := by omega); (try have hq5 : w.heap.size + 1 + 1 + 1 + 1 + 1 < wn.heap.size := by omega); (try have hq6 : w.heap.size + 1 + 1 + 1 + 1 + 1 + 1 < wn.heap.size := by omega); (try have hq7 : w.heap.size + 1 + 1 + 1 + 1 + 1 + 1 + 1 < wn.heap.size := by omega); (try have hggx : gx < wn.heap.size := by omega); (try have hggy : gy < wn.heap.size := by omega); (try have hggz : gz < wn.heap.size := by omega))
  · rw [both_err1 ‹_›, way_error]
    (simp (maxDischargeDepth := 8) [bodyPost, results, Tryd.results127, go_sem, *]; try (repeat (first | (with_reducible exact Below.refl _ _) | (with_reducible assumption) | (with_reducible refine Below.alloc ?_ (by first | (with_reducible exact Nat.le_refl _) | omega | (simp <;> omega)) _) | (with_reducible refine Below.setCell ?_ (by first | (with_reducible exact Nat.le_refl _) | omega | (simp <;> omega)) _) | (with_reducible refine Below.drew ?_) | (with_reducible refine bel_step (by assumption) ?_ (by first | (with_reducible exact Nat.le_refl _) | omega | (simp <;> omega))))))
  · rw [both_err2 (by assumption) (by assumption), way_error]
    (simp (maxDischargeDepth := 8) [bodyPost, results, Tryd.results127, go_sem, *]; try (repeat (first | (with_reducible exact Below.refl _ _) | (with_reducible assumption) | (with_reducible refine Below.alloc ?_ (by first | (with_reducible exact Nat.le_refl _) | omega | (simp <;> omega)) _) | (with_reducible refine Below.setCell ?_ (by first | (with_reducible exact Nat.le_refl _) | omega | (simp <;> omega)) _) | (with_reducible refine Below.drew ?_) | (with_reducible refine bel_step (by assumption) ?_ (by first | (with_reducible exact Nat.le_refl _) | omega | (simp <;> omega))))))
  · rw [both_ok (by assumption) (by assumption), way_ok]
    (simp (maxDischargeDepth := 8) [bodyPost, results, Tryd.results127, go_sem, *]; try (repeat (first | (with_reducible exact Below.refl _ _) | (with_reducible assumption) | (with_reducible refine Below.alloc ?_ (by first | (with_reducible exact Nat.le_refl _) | omega | (simp <;> omega)) _) | (with_reducible refine Below.setCell ?_ (by first | (with_reducible exact Nat.le_refl _) | omega | (simp <;> omega)) _) | (with_reducible refine Below.drew ?_) | (with_reducible refine bel_step (by assumption) ?_ (by first | (with_reducible exact Nat.le_refl _) | omega | (simp <;> omega))))))
set_option maxHeartbeats 1600000 in
theorem vec_Scale (ax ay k : Int) [F ax] [F ay] [F k] : Gives 106 #[vec ax ay, fx k] (way (both (mulF ax k) (mulF ay k))) := by
  intro w
  go_enter Tryd.func106, Tryd.ntmps106
  go_wp2_with (go_at_call 127; refine (each_Mul _ _ _ _ _).mono ?_; rintro e wn ⟨rfl, hbn⟩; obtain ⟨hcn, hfn, hzn0, hzn1, hzn2, hzn3, hzn4, hzn5, hzn6, hzn7, hzn8⟩ := bcell hbn; (try simp only [World.size_drew] at hcn hfn hzn0 hzn1 hzn2 hzn3 hzn4 hzn5 hzn6 hzn7 hzn8); have hsn := hbn.size; (try simp at hsn); (try have hq0 : w.heap.size < wn.heap.size := by omega); (try have hq1 : w.heap.size + 1 < wn.heap.size := by omega); (try have hq2 : w.heap.size + 1 + 1 < wn.heap.size := by omega); (try have hq3 : w.heap.size + 1 + 1 + 1 < wn.heap.size := by omega); (try have hq4 : w.heap.size + 1 + 1 + 1 + 1 < wn.heap.size := by omega); (try have hq5 : w.heap.size + 1 + 1 + 1 + 1 + 1 < wn.heap.size := by omega); (try have hq6 : w.heap.size + 1 + 1 + 1 + 1 + 1 + 1 < wn.heap.size := by omega); (try have hq7 : w.heap.size + 1 + 1 + 1 + 1 + 1 + 1 + 1 < wn.heap.size := by omega); (try have hggx : gx < wn.heap.size := by omega); (try have hggy : gy < wn.heap.size := by omega); (try have hggz : gz < wn.heap.size := by omega))
  (simp (maxDischargeDepth := 8) [bodyPost, results, Tryd.results106, go_sem, *]; try (repeat (first | (with_reducible exact Below.refl _ _) | (with_reducible assumption) | (with_reducible refine Below.alloc ?_ (by first | (with_reducible exact Nat.le_refl _) | omega | (simp <;> omega)) _) | (with_reducible refine Below.setCell ?_ (by first | (with_reducible exact Nat.le_refl _) | omega | (simp <;> omega)) _) | (with_reducible refine Below.drew ?_) | (with_reducible refine bel_step (by assumption) ?_ (by first | (with_reducible exact Nat.le_refl _) | omega | (simp <;> omega))))))
set_option maxHeartbeats 1600000 in
theorem vec_Add (ax ay bx b_y : Int) [F ax] [F ay] [F bx] [F b_y] : Gives 86 #[vec ax ay, vec bx b_y] (way (both (addF ax bx) (addF ay b_y))) := by
  intro w
  go_enter Tryd.func86, Tryd.ntmps86
  go_wp2_with (go_at_call 127; refine (each_Add _ _ _ _ _).mono ?_; rintro e wn ⟨rfl, hbn⟩; obtain ⟨hcn, hfn, hzn0, hzn1, hzn2, hzn3, hzn4, hzn5, hzn6, hzn7, hzn8⟩ := bcell hbn; (try simp only [World.size_drew] at hcn hfn hzn0 hzn1 hzn2 hzn3 hzn4 hzn5 hzn6 hzn7 hzn8); have hsn := hbn.size; (try simp at hsn); (try have hq0 : w.heap.size < wn.heap.size := by omega); (try have hq1 : w.heap.size + 1 < wn.heap.size := by omega); (try have hq2 : w.heap.size + 1 + 1 < wn.heap.size := by omega); (try have hq3 : w.heap.size + 1 + 1 + 1 < wn.heap.size := by omega); (try have hq4 : w.heap.size + 1 + 1 + 1 + 1 < wn.heap.size := by omega); (try have hq5 : w.heap.size + 1 + 1 + 1 + 1 + 1 < wn.heap.size := by omega); (try have hq6 : w.heap.size + 1 + 1 + 1 + 1 + 1 + 1 < wn.heap.size := by omega); (try have hq7 : w.heap.size + 1 + 1 + 1 + 1 + 1 + 1 + 1 < wn.heap.size := by omega); (try have hggx : gx < wn.heap.size := by omega); (try have hggy : gy < wn.heap.size := by omega); (try have hggz : gz < wn.heap.size := by omega))
  (simp (maxDischargeDepth := 8) [bodyPost, results, Tryd.results86, go_sem, *]; try (repeat (first | (with_reducible exact Below.refl _ _) | (with_reducible assumption) | (with_reducible refine Below.alloc ?_ (by first | (with_reducible exact Nat.le_refl _) | omega | (simp <;> omega)) _) | (with_reducible refine Below.setCell ?_ (by first | (with_reducible exact Nat.le_refl _) | omega | (simp <;> omega)) _) | (with_reducible refine Below.drew ?_) | (with_reducible refine bel_step (by assumption) ?_ (by first | (with_reducible exact Nat.le_refl _) | omega | (simp <;> omega))))))
end Go.Proofs.YtpbklojdmkpkcaaDoor
