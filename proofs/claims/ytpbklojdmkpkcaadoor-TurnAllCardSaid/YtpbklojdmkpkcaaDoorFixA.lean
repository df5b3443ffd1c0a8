/- fix: what a size tells; sums, products, halves. -/
import Derived.Test.YtpbklojdmkpkcaaDoorLimbD
namespace Go.Proofs.YtpbklojdmkpkcaaDoor
open Go.RowKit
set_option linter.unusedSimpArgs false
set_option linter.unusedVariables false

theorem blAux : ∀ (f x : Nat), x < 2 ^ f → Lib.bitLenAux f x ≤ f ∧ x < 2 ^ Lib.bitLenAux f x ∧ (x ≠ 0 → 1 ≤ Lib.bitLenAux f x ∧ 2 ^ (Lib.bitLenAux f x - 1) ≤ x)
  | 0, x, h => by
    have : x = 0 := by simp at h; exact h
    subst this; simp [Lib.bitLenAux]
  | f + 1, x, h => by
    by_cases h0 : x = 0
    · subst h0; simp [Lib.bitLenAux]
    · have e : Lib.bitLenAux (f + 1) x = 1 + Lib.bitLenAux f (x / 2) := by simp [Lib.bitLenAux, h0]
      rw [e]
      obtain ⟨i1, i2, i3⟩ := blAux f (x / 2) (by rw [Nat.pow_succ] at h; omega)
      generalize Lib.bitLenAux f (x / 2) = k at *
      refine ⟨by omega, ?_, fun _ => ⟨by omega, ?_⟩⟩
      · rw [Nat.add_comm, Nat.pow_succ]; omega
      · rw [Nat.add_sub_cancel_left]
        by_cases h1 : x / 2 = 0
        · have : k = 0 := by
            rcases Nat.eq_zero_or_pos k with hk | hk
            · exact hk
            · exfalso
              have hx1 : x = 1 := by omega
              subst hx1
              have : Lib.bitLenAux (f + 1) 1 = 1 + Lib.bitLenAux f 0 := by simp [Lib.bitLenAux]
              have hz : Lib.bitLenAux f 0 = 0 := by cases f <;> simp [Lib.bitLenAux]
              rw [hz] at this
              omega
          subst this; simp; omega
        · obtain ⟨j1, j2⟩ := i3 h1
          obtain ⟨m, rfl⟩ : ∃ m, k = m + 1 := ⟨k - 1, by omega⟩
          simp only [Nat.add_sub_cancel] at j2
          rw [Nat.pow_succ]; omega
theorem bl_bd (x : Int) [h : U x] : 0 ≤ bl x ∧ bl x ≤ 64 ∧ (63 < bl x ↔ 9223372036854775808 ≤ x) ∧ (x ≠ 0 → 1 ≤ bl x) := by
  have hx := h.h
  unfold bl Lib.bitLen
  obtain ⟨s1, s2, s3⟩ := blAux 64 x.toNat (by omega)
  have s4 : x.toNat = 0 → Lib.bitLenAux 64 x.toNat = 0 := fun e => by rw [e]; rfl
  generalize Lib.bitLenAux 64 x.toNat = k at *
  refine ⟨by omega, by omega, ?_, fun h0 => by have := (s3 (by omega)).1; omega⟩
  constructor
  · intro hk
    have : k = 64 := by omega
    subst this
    have h0 : x.toNat ≠ 0 := fun e => by have := s4 e; omega
    have := (s3 h0).2
    omega
  · intro hk
    rcases Nat.lt_or_ge 63 k with h1 | h1
    · omega
    · exfalso
      have : 2 ^ k ≤ 2 ^ 63 := Nat.pow_le_pow_right (by decide) h1
      omega
theorem wrap64_in (x : Int) (h : -9223372036854775808 ≤ x ∧ x < 9223372036854775808) : wrap64 x = x := by rw [wrap64_is]; omega
theorem len4_127 (a b c d : Int) [ha : U a] [hb : U b] [hc : U c] [hd : U d] : 127 < len4 a b c d ↔ 170141183460469231731687303715884105728 ≤ val4 a b c d := by
  have ka := bl_bd a; have kb := bl_bd b; have kc := bl_bd c; have kd := bl_bd d
  have := ha.h; have := hb.h; have := hc.h; have := hd.h
  unfold len4 val4 val2
  split
  · rename_i h; have := ka.2.2.2 h; rw [wrap64_in _ (by omega)]; omega
  · split
    · rename_i h; have := kb.2.2.2 h; rw [wrap64_in _ (by omega)]; omega
    · split
      · rw [wrap64_in _ (by omega)]; omega
      · split
        · rw [wrap64_in _ (by omega)]; omega
        · omega

/-- A result with an error: the number (nought beside an error), and the error's number. -/
def valF : Except Int Int → Int
  | .ok r => r
  | .error _ => 0
def errF : Except Int Int → Int
  | .ok _ => 0
  | .error e => e
abbrev res (x : Except Int Int) : Value := .tuple #[fx (valF x), .int .i64 (errF x)]
theorem valF_ok (r : Int) : valF (.ok r) = r := rfl
theorem valF_error (r : Int) : valF (.error r) = 0 := rfl
theorem errF_ok (r : Int) : errF (.ok r) = 0 := rfl
theorem errF_error (r : Int) : errF (.error r) = r := rfl
theorem hi_0 : hi 0 = 0 := by decide
theorem lo_0 : lo 0 = 0 := by decide
theorem res_ok (r : Int) : res (.ok r) = .tuple #[fx r, .int .i64 0] := rfl
theorem res_error (e : Int) : res (.error e) = .tuple #[.agg #[.int .i64 0, .int .u64 0], .int .i64 e] := by unfold res fx; rw [valF_error, errF_error, hi_0, lo_0]
/-- What a size tells: the number, if there is one. -/
def tell (n : Int) (b : Bool) : Except Int Int := if 170141183460469231731687303715884105728 ≤ n then .error 3 else .ok (bif b then -n else n)
theorem tell_F {n : Int} {b : Bool} (h0 : 0 ≤ n) {r : Int} (h : tell n b = .ok r) : F r := by
  unfold tell at h; split at h
  · cases h
  · cases h; cases b <;> exact ⟨by simp; omega⟩
theorem ofSize_tell (a b c d : Int) (s : Bool) [ha : U a] [hb : U b] [hc : U c] [hd : U d] (h : val4 a b c d < 170141183460469231731687303715884105728) :
    ofSize (val2 c d) s = bif s then - val4 a b c d else val4 a b c d := by
  have := ha.h; have := hb.h; have := hc.h; have := hd.h
  have e : val4 a b c d = val2 c d := by unfold val4 val2 at *; omega
  rw [e] at h ⊢
  have : 0 ≤ val2 c d := by unfold val2; omega
  unfold ofSize
  cases s
  · simp only [cond_false]; exact signed_of _ (h := ⟨by omega⟩)
  · simp only [cond_true]; exact signed_of _ (h := ⟨by omega⟩)

set_option maxHeartbeats 800000 in
theorem fix_told (a b c d : Int) (s : Bool) [U a] [U b] [U c] [U d] : Gives 120 #[.agg #[.int .u64 a, .int .u64 b, .int .u64 c, .int .u64 d], .bool s] (res (tell (val4 a b c d) s)) := by
  intro w
  have hl := len4_127 a b c d
  by_cases h : 170141183460469231731687303715884105728 ≤ val4 a b c d
  · have h1 := hl.2 h
    have e : tell (val4 a b c d) s = .error 3 := if_pos h
    rw [e, res_error]
    clear h e hl
    go_enter Tryd.func120, Tryd.ntmps120
    go_wp2_with (first | (go_at_call 145; refine (limb_Len _ _ _ _ _).mono ?_; rintro e wn ⟨rfl, hbn⟩; obtain ⟨hcn, hfn, hzn0, hzn1, hzn2, hzn3, hzn4, hzn5, hzn6, hzn7, hzn8⟩ := bcell hbn; (try simp only [World.size_drew] at hcn hfn hzn0 hzn1 hzn2 hzn3 hzn4 hzn5 hzn6 hzn7 hzn8); have hsn := hbn.size; (try simp at hsn); (try have hq0 : w.heap.size < wn.heap.size := by omega); (try have hq1 : w.heap.size + 1 < wn.heap.size := by omega); (try have hq2 : w.heap.size + 1 + 1 < wn.heap.size := by omega); (try have hq3 : w.heap.size + 1 + 1 + 1 < wn.heap.size := by omega); (try have hq4 : w.heap.size + 1 + 1 + 1 + 1 < wn.heap.size := by omega); (try have hq5 : w.heap.size + 1 + 1 + 1 + 1 + 1 < wn.heap.size := by omega); (try have hq6 : w.heap.size + 1 + 1 + 1 + 1 + 1 + 1 < wn.heap.size := by omega); (try have hq7 : w.heap.size + 1 + 1 + 1 + 1 + 1 + 1 + 1 < wn.heap.size := by omega); (try have hggx : gx < wn.heap.size := by omega); (try have hggy : gy < wn.heap.size := by omega); (try have hggz : gz < wn.heap.size := by omega)) | (go_at_call 140; refine (fix_fix _ _ _ _).mono ?_; rintro e wn ⟨rfl, hbn⟩; obtain ⟨hcn, hfn, hzn0, hzn1, hzn2, hzn3, hzn4, hzn5, hzn6, hzn7, hzn8⟩ := bcell hbn; (try simp only [World.size_drew] at hcn hfn hzn0 hzn1 hzn2 hzn3 hzn4 hzn5 hzn6 hzn7 hzn8); have hsn := hbn.size; (try simp at hsn); (try have hq0 : w.heap.size < wn.heap.size := by omega); (try have hq1 : w.heap.size + 1 < wn.heap.size := by omega); (try have hq2 : w.heap.size + 1 + 1 < wn.heap.size := by omega); (try have hq3 : w.heap.size + 1 + 1 + 1 < wn.heap.size := by omega); (try have hq4 : w.heap.size + 1 + 1 + 1 + 1 < wn.heap.size := by omega); (try have hq5 : w.heap.size + 1 + 1 + 1 + 1 + 1 < wn.heap.size := by omega); (try have hq6 : w.heap.size + 1 + 1 + 1 + 1 + 1 + 1 < wn.heap.size := by omega); (try have hq7 : w.heap.size + 1 + 1 + 1 + 1 + 1 + 1 + 1 < wn.heap.size := by omega); (try have hggx : gx < wn.heap.size := by omega); (try have hggy : gy < wn.heap.size := by omega); (try have hggz : gz < wn.heap.size := by omega)))
    (simp (maxDischargeDepth := 8) [bodyPost, results, Tryd.results120, go_sem, *]; try (repeat (first | (with_reducible exact Below.refl _ _) | (with_reducible assumption) | (with_reducible refine Below.alloc ?_ (by first | (with_reducible exact Nat.le_refl _) | omega | (simp <;> omega)) _) | (with_reducible refine Below.setCell ?_ (by first | (with_reducible exact Nat.le_refl _) | omega | (simp <;> omega)) _) | (with_reducible refine Below.drew ?_) | (with_reducible refine bel_step (by assumption) ?_ (by first | (with_reducible exact Nat.le_refl _) | omega | (simp <;> omega))))))
  · have h1 : ¬ 127 < len4 a b c d := fun hh => h (hl.1 hh)
    have e : tell (val4 a b c d) s = .ok (bif s then - val4 a b c d else val4 a b c d) := if_neg h
    rw [e, res_ok, ← ofSize_tell a b c d s (by omega)]
    clear h e hl
    go_enter Tryd.func120, Tryd.ntmps120
    go_wp2_with (first | (go_at_call 145; refine (limb_Len _ _ _ _ _).mono ?_; rintro e wn ⟨rfl, hbn⟩; obtain ⟨hcn, hfn, hzn0, hzn1, hzn2, hzn3, hzn4, hzn5, hzn6, hzn7, hzn8⟩ := bcell hbn; (try simp only [World.size_drew] at hcn hfn hzn0 hzn1 hzn2 hzn3 hzn4 hzn5 hzn6 hzn7 hzn8); have hsn := hbn.size; (try simp at hsn); (try have hq0 : w.heap.size < wn.heap.size := by omega); (try have hq1 : w.heap.size + 1 < wn.heap.size := by omega); (try have hq2 : w.heap.size + 1 + 1 < wn.heap.size := by omega); (try have hq3 : w.heap.size + 1 + 1 + 1 < wn.heap.size := by omega); (try have hq4 : w.heap.size + 1 + 1 + 1 + 1 < wn.heap.size := by omega); (try have hq5 : w.heap.size + 1 + 1 + 1 + 1 + 1 < wn.heap.size := by omega); (try have hq6 : w.heap.size + 1 + 1 + 1 + 1 + 1 + 1 < wn.heap.size := by omega); (try have hq7 : w.heap.size + 1 + 1 + 1 + 1 + 1 + 1 + 1 < wn.heap.size := by omega); (try have hggx : gx < wn.heap.size := by omega); (try have hggy : gy < wn.heap.size := by omega); (try have hggz : gz < wn.heap.size := by omega)) | (go_at_call 140; refine (fix_fix _ _ _ _).mono ?_; rintro e wn ⟨rfl, hbn⟩; obtain ⟨hcn, hfn, hzn0, hzn1, hzn2, hzn3, hzn4, hzn5, hzn6, hzn7, hzn8⟩ := bcell hbn; (try simp only [World.size_drew] at hcn hfn hzn0 hzn1 hzn2 hzn3 hzn4 hzn5 hzn6 hzn7 hzn8); have hsn := hbn.size; (try simp at hsn); (try have hq0 : w.heap.size < wn.heap.size := by omega); (try have hq1 : w.heap.size + 1 < wn.heap.size := by omega); (try have hq2 : w.heap.size + 1 + 1 < wn.heap.size := by omega); (try have hq3 : w.heap.size + 1 + 1 + 1 < wn.heap.size := by omega); (try have hq4 : w.heap.size + 1 + 1 + 1 + 1 < wn.heap.size := by omega); (try have hq5 : w.heap.size + 1 + 1 + 1 + 1 + 1 < wn.heap.size := by omega); (try have hq6 : w.heap.size + 1 + 1 + 1 + 1 + 1 + 1 < wn.heap.size := by omega); (try have hq7 : w.heap.size + 1 + 1 + 1 + 1 + 1 + 1 + 1 < wn.heap.size := by omega); (try have hggx : gx < wn.heap.size := by omega); (try have hggy : gy < wn.heap.size := by omega); (try have hggz : gz < wn.heap.size := by omega)))
    (simp (maxDischargeDepth := 8) [bodyPost, results, Tryd.results120, go_sem, *]; try (repeat (first | (with_reducible exact Below.refl _ _) | (with_reducible assumption) | (with_reducible refine Below.alloc ?_ (by first | (with_reducible exact Nat.le_refl _) | omega | (simp <;> omega)) _) | (with_reducible refine Below.setCell ?_ (by first | (with_reducible exact Nat.le_refl _) | omega | (simp <;> omega)) _) | (with_reducible refine Below.drew ?_) | (with_reducible refine bel_step (by assumption) ?_ (by first | (with_reducible exact Nat.le_refl _) | omega | (simp <;> omega))))))
end Go.Proofs.YtpbklojdmkpkcaaDoor
