/- The reference: sums of two words; how much a number is; of a sign and how much; products of words. -/
import Derived.Test.YtpbklojdmkpkcaaDoorRefA
namespace Go.Proofs.YtpbklojdmkpkcaaDoor
open Go.RowKit
set_option linter.unusedSimpArgs false
set_option linter.unusedVariables false
attribute [local go_sem] wrapU fld_Sum_0 fld_Sum_1 fld_Got_0 fld_Got_1
theorem bcellM {W w1 : World} (hb : Below W.heap.size W w1) : ∃ M, M = W.heap.size ∧ (∀ b o, b < M → w1.cell? ⟨b, o, none⟩ = W.cell? ⟨b, o, none⟩) ∧ (∀ b o, b < M → w1.frozen? ⟨b, o, none⟩ = W.frozen? ⟨b, o, none⟩) :=
  ⟨_, rfl, (bcell hb).1, (bcell hb).2.1⟩
theorem add2_lo (ah al bh b_l : Int) : IntKind.u64.wrap (al + b_l) = lo (mod2 (val2 ah al + val2 bh b_l)) := by rw [IntKind.wrap_u64]; unfold lo mod2 val2; omega
theorem add2_1 (ah al bh b_l : Int) [h1 : U ah] [h2 : U al] [h3 : U bh] [h4 : U b_l] (h : IntKind.u64.wrap (al + b_l) < al) :
    hi (mod2 (val2 ah al + val2 bh b_l)) = IntKind.u64.wrap (IntKind.u64.wrap (ah + bh) + 1) ∧ over2 (val2 ah al + val2 bh b_l) = (decide (IntKind.u64.wrap (ah + bh) < ah) || IntKind.u64.wrap (IntKind.u64.wrap (ah + bh) + 1) == 0) := by
  have := h1.h; have := h2.h; have := h3.h; have := h4.h
  simp only [IntKind.wrap_u64] at *
  constructor
  · unfold hi mod2 val2; omega
  · unfold over2 val2; rw [Bool.eq_iff_iff]; simp; omega
theorem add2_0 (ah al bh b_l : Int) [h1 : U ah] [h2 : U al] [h3 : U bh] [h4 : U b_l] (h : ¬ IntKind.u64.wrap (al + b_l) < al) :
    hi (mod2 (val2 ah al + val2 bh b_l)) = IntKind.u64.wrap (ah + bh) ∧ over2 (val2 ah al + val2 bh b_l) = decide (IntKind.u64.wrap (ah + bh) < ah) := by
  have := h1.h; have := h2.h; have := h3.h; have := h4.h
  simp only [IntKind.wrap_u64] at *
  constructor
  · unfold hi mod2 val2; omega
  · unfold over2 val2; rw [Bool.eq_iff_iff]; simp; omega
set_option maxRecDepth 100000 in
set_option maxHeartbeats 1600000 in
theorem r1_AddTwo (ah al bh b_l : Int) [U ah] [U al] [U bh] [U b_l] : Gives 75 #[.agg #[.int .u64 ah, .int .u64 al], .agg #[.int .u64 bh, .int .u64 b_l]] (sumv (mod2 (val2 ah al + val2 bh b_l)) (over2 (val2 ah al + val2 bh b_l))) := by
  intro w
  unfold sumv
  rw [← add2_lo ah al bh b_l]
  by_cases h : IntKind.u64.wrap (al + b_l) < al
  · rw [(add2_1 ah al bh b_l h).1, (add2_1 ah al bh b_l h).2]
    by_cases h2 : IntKind.u64.wrap (ah + bh) < ah
    · go_enter Tryd.func75, Tryd.ntmps75
      go_wp2_with fail
      all_goals (simp (maxDischargeDepth := 8) [bodyPost, results, Tryd.results75, go_sem, *]; try (repeat (first | (with_reducible exact Below.refl _ _) | (with_reducible assumption) | (with_reducible refine Below.alloc ?_ (by first | (with_reducible exact Nat.le_refl _) | omega | (simp <;> omega)) _) | (with_reducible refine Below.setCell ?_ (by first | (with_reducible exact Nat.le_refl _) | omega | (simp <;> omega)) _) | (with_reducible refine Below.drew ?_) | (with_reducible refine bel_step (by assumption) ?_ (by first | (with_reducible exact Nat.le_refl _) | omega | (simp <;> omega))))))
    · go_enter Tryd.func75, Tryd.ntmps75
      go_wp2_with fail
      all_goals (simp (maxDischargeDepth := 8) [bodyPost, results, Tryd.results75, go_sem, *]; try (repeat (first | (with_reducible exact Below.refl _ _) | (with_reducible assumption) | (with_reducible refine Below.alloc ?_ (by first | (with_reducible exact Nat.le_refl _) | omega | (simp <;> omega)) _) | (with_reducible refine Below.setCell ?_ (by first | (with_reducible exact Nat.le_refl _) | omega | (simp <;> omega)) _) | (with_reducible refine Below.drew ?_) | (with_reducible refine bel_step (by assumption) ?_ (by first | (with_reducible exact Nat.le_refl _) | omega | (simp <;> omega))))))
      exact ⟨fun hh => absurd hh (by omega), by (repeat (first | (with_reducible exact Below.refl _ _) | (with_reducible assumption) | (with_reducible refine Below.alloc ?_ (by first | (with_reducible exact Nat.le_refl _) | omega | (simp <;> omega)) _) | (with_reducible refine Below.setCell ?_ (by first | (with_reducible exact Nat.le_refl _) | omega | (simp <;> omega)) _) | (with_reducible refine Below.drew ?_) | (with_reducible refine bel_step (by assumption) ?_ (by first | (with_reducible exact Nat.le_refl _) | omega | (simp <;> omega)))))⟩
  · rw [(add2_0 ah al bh b_l h).1, (add2_0 ah al bh b_l h).2]
    by_cases h2 : IntKind.u64.wrap (ah + bh) < ah
    · go_enter Tryd.func75, Tryd.ntmps75
      go_wp2_with fail
      all_goals (simp (maxDischargeDepth := 8) [bodyPost, results, Tryd.results75, go_sem, *]; try (repeat (first | (with_reducible exact Below.refl _ _) | (with_reducible assumption) | (with_reducible refine Below.alloc ?_ (by first | (with_reducible exact Nat.le_refl _) | omega | (simp <;> omega)) _) | (with_reducible refine Below.setCell ?_ (by first | (with_reducible exact Nat.le_refl _) | omega | (simp <;> omega)) _) | (with_reducible refine Below.drew ?_) | (with_reducible refine bel_step (by assumption) ?_ (by first | (with_reducible exact Nat.le_refl _) | omega | (simp <;> omega))))))
    · go_enter Tryd.func75, Tryd.ntmps75
      go_wp2_with fail
      all_goals (simp (maxDischargeDepth := 8) [bodyPost, results, Tryd.results75, go_sem, *]; try (repeat (first | (with_reducible exact Below.refl _ _) | (with_reducible assumption) | (with_reducible refine Below.alloc ?_ (by first | (with_reducible exact Nat.le_refl _) | omega | (simp <;> omega)) _) | (with_reducible refine Below.setCell ?_ (by first | (with_reducible exact Nat.le_refl _) | omega | (simp <;> omega)) _) | (with_reducible refine Below.drew ?_) | (with_reducible refine bel_step (by assumption) ?_ (by first | (with_reducible exact Nat.le_refl _) | omega | (simp <;> omega))))))
theorem hi_neg (a : Int) : hi a < 0 ↔ a < 0 := by unfold hi; omega
theorem mag_of_neg {a : Int} (h : a < 0) : mag a = -a := if_pos h
theorem mag_of_pos {a : Int} (h : ¬ a < 0) : mag a = a := if_neg h
set_option maxRecDepth 100000 in
set_option maxHeartbeats 1600000 in
theorem r1_Mag (a : Int) [hF : F a] : Gives 39 #[fx a] (two (mag a)) := by
  intro w
  have hf := hF.h
  by_cases h : a < 0
  · have h1 := (hi_neg a).2 h
    rw [mag_of_neg h]
    haveI : T (-a) := ⟨by omega⟩
    clear h hf
    go_enter Tryd.func39, Tryd.ntmps39
    go_wp2_with (go_at_call 22; refine (r1_Neg _ _).mono ?_; rintro e wn ⟨rfl, hbn⟩; obtain ⟨hcn, hfn, hzn0, hzn1, hzn2, hzn3, hzn4, hzn5, hzn6, hzn7, hzn8⟩ := bcell hbn; (try simp only [World.size_drew] at hcn hfn hzn0 hzn1 hzn2 hzn3 hzn4 hzn5 hzn6 hzn7 hzn8); have hsn := hbn.size; (try simp at hsn); (try have hq0 : w.heap.size < wn.heap.size := by omega); (try have hq1 : w.heap.size + 1 < wn.heap.size := by omega); (try have hq2 : w.heap.size + 1 + 1 < wn.heap.size := by omega); (try have hq3 : w.heap.size + 1 + 1 + 1 < wn.heap.size := by omega); (try have hq4 : w.heap.size + 1 + 1 + 1 + 1 < wn.heap.size := by omega); (try have hq5 : w.heap.size + 1 + 1 + 1 + 1 + 1 < wn.heap.size := by omega); (try have hq6 : w.heap.size + 1 + 1 + 1 + 1 + 1 + 1 < wn.heap.size := by omega); (try have hq7 : w.heap.size + 1 + 1 + 1 + 1 + 1 + 1 + 1 < wn.heap.size := by omega); (try have hggx : gx < wn.heap.size := by omega); (try have hggy : gy < wn.heap.size := by omega); (try have hggz : gz < wn.heap.size := by omega); obtain ⟨M, hM, hcM, hfM⟩ := bcellM hbn; (try simp at hM); (try have hl0 : w.heap.size < M := by omega); (try have hcx0 := fun o => hcM (w.heap.size) o hl0); (try have hfx0 := fun o => hfM (w.heap.size) o hl0); (try clear hl0); (try have hl1 : w.heap.size + 1 < M := by omega); (try have hcx1 := fun o => hcM (w.heap.size + 1) o hl1); (try have hfx1 := fun o => hfM (w.heap.size + 1) o hl1); (try clear hl1); (try have hl2 : w.heap.size + 1 + 1 < M := by omega); (try have hcx2 := fun o => hcM (w.heap.size + 1 + 1) o hl2); (try have hfx2 := fun o => hfM (w.heap.size + 1 + 1) o hl2); (try clear hl2); (try have hl3 : w.heap.size + 1 + 1 + 1 < M := by omega); (try have hcx3 := fun o => hcM (w.heap.size + 1 + 1 + 1) o hl3); (try have hfx3 := fun o => hfM (w.heap.size + 1 + 1 + 1) o hl3); (try clear hl3); (try have hl4 : w.heap.size + 1 + 1 + 1 + 1 < M := by omega); (try have hcx4 := fun o => hcM (w.heap.size + 1 + 1 + 1 + 1) o hl4); (try have hfx4 := fun o => hfM (w.heap.size + 1 + 1 + 1 + 1) o hl4); (try clear hl4); (try have hl5 : w.heap.size + 1 + 1 + 1 + 1 + 1 < M := by omega); (try have hcx5 := fun o => hcM (w.heap.size + 1 + 1 + 1 + 1 + 1) o hl5); (try have hfx5 := fun o => hfM (w.heap.size + 1 + 1 + 1 + 1 + 1) o hl5); (try clear hl5); clear hcM hfM hM M)
    all_goals (simp (maxDischargeDepth := 8) [bodyPost, results, Tryd.results39, go_sem, *]; try (repeat (first | (with_reducible exact Below.refl _ _) | (with_reducible assumption) | (with_reducible refine Below.alloc ?_ (by first | (with_reducible exact Nat.le_refl _) | omega | (simp <;> omega)) _) | (with_reducible refine Below.setCell ?_ (by first | (with_reducible exact Nat.le_refl _) | omega | (simp <;> omega)) _) | (with_reducible refine Below.drew ?_) | (with_reducible refine bel_step (by assumption) ?_ (by first | (with_reducible exact Nat.le_refl _) | omega | (simp <;> omega))))))
  · have h1 : ¬ hi a < 0 := fun hh => h ((hi_neg a).1 hh)
    rw [mag_of_pos h]
    haveI : T a := ⟨by omega⟩
    clear h hf
    go_enter Tryd.func39, Tryd.ntmps39
    go_wp2_with (go_at_call 22; refine (r1_Neg _ _).mono ?_; rintro e wn ⟨rfl, hbn⟩; obtain ⟨hcn, hfn, hzn0, hzn1, hzn2, hzn3, hzn4, hzn5, hzn6, hzn7, hzn8⟩ := bcell hbn; (try simp only [World.size_drew] at hcn hfn hzn0 hzn1 hzn2 hzn3 hzn4 hzn5 hzn6 hzn7 hzn8); have hsn := hbn.size; (try simp at hsn); (try have hq0 : w.heap.size < wn.heap.size := by omega); (try have hq1 : w.heap.size + 1 < wn.heap.size := by omega); (try have hq2 : w.heap.size + 1 + 1 < wn.heap.size := by omega); (try have hq3 : w.heap.size + 1 + 1 + 1 < wn.heap.size := by omega); (try have hq4 : w.heap.size + 1 + 1 + 1 + 1 < wn.heap.size := by omega); (try have hq5 : w.heap.size + 1 + 1 + 1 + 1 + 1 < wn.heap.size := by omega); (try have hq6 : w.heap.size + 1 + 1 + 1 + 1 + 1 + 1 < wn.heap.size := by omega); (try have hq7 : w.heap.size + 1 + 1 + 1 + 1 + 1 + 1 + 1 < wn.heap.size := by omega); (try have hggx : gx < wn.heap.size := by omega); (try have hggy : gy < wn.heap.size := by omega); (try have hggz : gz < wn.heap.size := by omega); obtain ⟨M, hM, hcM, hfM⟩ := bcellM hbn; (try simp at hM); (try have hl0 : w.heap.size < M := by omega); (try have hcx0 := fun o => hcM (w.heap.size) o hl0); (try have hfx0 := fun o => hfM (w.heap.size) o hl0); (try clear hl0); (try have hl1 : w.heap.size + 1 < M := by omega); (try have hcx1 := fun o => hcM (w.heap.size + 1) o hl1); (try have hfx1 := fun o => hfM (w.heap.size + 1) o hl1); (try clear hl1); (try have hl2 : w.heap.size + 1 + 1 < M := by omega); (try have hcx2 := fun o => hcM (w.heap.size + 1 + 1) o hl2); (try have hfx2 := fun o => hfM (w.heap.size + 1 + 1) o hl2); (try clear hl2); (try have hl3 : w.heap.size + 1 + 1 + 1 < M := by omega); (try have hcx3 := fun o => hcM (w.heap.size + 1 + 1 + 1) o hl3); (try have hfx3 := fun o => hfM (w.heap.size + 1 + 1 + 1) o hl3); (try clear hl3); (try have hl4 : w.heap.size + 1 + 1 + 1 + 1 < M := by omega); (try have hcx4 := fun o => hcM (w.heap.size + 1 + 1 + 1 + 1) o hl4); (try have hfx4 := fun o => hfM (w.heap.size + 1 + 1 + 1 + 1) o hl4); (try clear hl4); (try have hl5 : w.heap.size + 1 + 1 + 1 + 1 + 1 < M := by omega); (try have hcx5 := fun o => hcM (w.heap.size + 1 + 1 + 1 + 1 + 1) o hl5); (try have hfx5 := fun o => hfM (w.heap.size + 1 + 1 + 1 + 1 + 1) o hl5); (try clear hl5); clear hcM hfM hM M)
    all_goals (simp (maxDischargeDepth := 8) [bodyPost, results, Tryd.results39, go_sem, *]; try (repeat (first | (with_reducible exact Below.refl _ _) | (with_reducible assumption) | (with_reducible refine Below.alloc ?_ (by first | (with_reducible exact Nat.le_refl _) | omega | (simp <;> omega)) _) | (with_reducible refine Below.setCell ?_ (by first | (with_reducible exact Nat.le_refl _) | omega | (simp <;> omega)) _) | (with_reducible refine Below.drew ?_) | (with_reducible refine bel_step (by assumption) ?_ (by first | (with_reducible exact Nat.le_refl _) | omega | (simp <;> omega))))))
abbrev got (x : Except Int Int) : Value := .agg #[.int .i64 (hi (valF x)), .int .u64 (lo (valF x)), .int .i64 (errF x)]
theorem tell_small (a b c d : Int) (s : Bool) [ha : U a] [hb : U b] [hc : U c] [hd : U d] (h1 : (a != 0 || b != 0) = false) (h2 : c < 9223372036854775808) :
    tell (val4 a b c d) s = .ok (bif s then -(val2 c d) else val2 c d) ∧ F (val2 c d) := by
  have := hc.h; have := hd.h
  simp at h1
  obtain ⟨rfl, rfl⟩ := h1
  rw [val4_0]
  unfold tell
  rw [if_neg (by unfold val2; omega)]
  exact ⟨rfl, ⟨by unfold val2; omega⟩⟩
theorem tell_great (a b c d : Int) (s : Bool) [ha : U a] [hb : U b] [hc : U c] [hd : U d] (h : (a != 0 || b != 0) = true ∨ 9223372036854775808 ≤ c) : tell (val4 a b c d) s = .error 3 := by
  have := ha.h; have := hb.h; have := hc.h; have := hd.h
  simp at h
  unfold tell
  rw [if_pos (by unfold val4 val2; omega)]
theorem got_ok (r : Int) : got (.ok r) = .agg #[.int .i64 (hi r), .int .u64 (lo r), .int .i64 0] := rfl
theorem got_error (e : Int) : got (.error e) = .agg #[.int .i64 0, .int .u64 0, .int .i64 e] := by unfold got; simp only [valF, errF]; rw [hi_0, lo_0]
theorem wrap64_hi (x : Int) [h : F x] : wrap64 (hi x) = hi x := by have := h.h; rw [wrap64_is]; unfold hi; omega
theorem hi_small (x : Int) [h : F x] [h2 : T x] : hi x < 9223372036854775808 := by have := h.h; unfold hi; omega
set_option maxRecDepth 100000 in
set_option maxHeartbeats 1600000 in
theorem signed_ok (x : Int) (s : Bool) [F x] [T x] : Gives 76 #[.bool s, .agg #[.int .u64 0, .int .u64 0, .int .u64 (hi x), .int .u64 (lo x)]] (got (.ok (bif s then -x else x))) := by
  intro w
  rw [got_ok]
  have h1 := hi_small x
  have h2 := wrap64_hi x
  cases s
  · simp only [cond_false]
    go_enter Tryd.func76, Tryd.ntmps76
    go_wp2_with (go_at_call 22; refine (r1_Neg _ _).mono ?_; rintro e wn ⟨rfl, hbn⟩; obtain ⟨hcn, hfn, hzn0, hzn1, hzn2, hzn3, hzn4, hzn5, hzn6, hzn7, hzn8⟩ := bcell hbn; (try simp only [World.size_drew] at hcn hfn hzn0 hzn1 hzn2 hzn3 hzn4 hzn5 hzn6 hzn7 hzn8); have hsn := hbn.size; (try simp at hsn); (try have hq0 : w.heap.size < wn.heap.size := by omega); (try have hq1 : w.heap.size + 1 < wn.heap.size := by omega); (try have hq2 : w.heap.size + 1 + 1 < wn.heap.size := by omega); (try have hq3 : w.heap.size + 1 + 1 + 1 < wn.heap.size := by omega); (try have hq4 : w.heap.size + 1 + 1 + 1 + 1 < wn.heap.size := by omega); (try have hq5 : w.heap.size + 1 + 1 + 1 + 1 + 1 < wn.heap.size := by omega); (try have hq6 : w.heap.size + 1 + 1 + 1 + 1 + 1 + 1 < wn.heap.size := by omega); (try have hq7 : w.heap.size + 1 + 1 + 1 + 1 + 1 + 1 + 1 < wn.heap.size := by omega); (try have hggx : gx < wn.heap.size := by omega); (try have hggy : gy < wn.heap.size := by omega); (try have hggz : gz < wn.heap.size := by omega); obtain ⟨M, hM, hcM, hfM⟩ := bcellM hbn; (try simp at hM); (try have hl0 : w.heap.size < M := by omega); (try have hcx0 := fun o => hcM (w.heap.size) o hl0); (try have hfx0 := fun o => hfM (w.heap.size) o hl0); (try clear hl0); (try have hl1 : w.heap.size + 1 < M := by omega); (try have hcx1 := fun o => hcM (w.heap.size + 1) o hl1); (try have hfx1 := fun o => hfM (w.heap.size + 1) o hl1); (try clear hl1); (try have hl2 : w.heap.size + 1 + 1 < M := by omega); (try have hcx2 := fun o => hcM (w.heap.size + 1 + 1) o hl2); (try have hfx2 := fun o => hfM (w.heap.size + 1 + 1) o hl2); (try clear hl2); (try have hl3 : w.heap.size + 1 + 1 + 1 < M := by omega); (try have hcx3 := fun o => hcM (w.heap.size + 1 + 1 + 1) o hl3); (try have hfx3 := fun o => hfM (w.heap.size + 1 + 1 + 1) o hl3); (try clear hl3); (try have hl4 : w.heap.size + 1 + 1 + 1 + 1 < M := by omega); (try have hcx4 := fun o => hcM (w.heap.size + 1 + 1 + 1 + 1) o hl4); (try have hfx4 := fun o => hfM (w.heap.size + 1 + 1 + 1 + 1) o hl4); (try clear hl4); (try have hl5 : w.heap.size + 1 + 1 + 1 + 1 + 1 < M := by omega); (try have hcx5 := fun o => hcM (w.heap.size + 1 + 1 + 1 + 1 + 1) o hl5); (try have hfx5 := fun o => hfM (w.heap.size + 1 + 1 + 1 + 1 + 1) o hl5); (try clear hl5); clear hcM hfM hM M)
    all_goals (simp (maxDischargeDepth := 8) [bodyPost, results, Tryd.results76, go_sem, *]; try (repeat (first | (with_reducible exact Below.refl _ _) | (with_reducible assumption) | (with_reducible refine Below.alloc ?_ (by first | (with_reducible exact Nat.le_refl _) | omega | (simp <;> omega)) _) | (with_reducible refine Below.setCell ?_ (by first | (with_reducible exact Nat.le_refl _) | omega | (simp <;> omega)) _) | (with_reducible refine Below.drew ?_) | (with_reducible refine bel_step (by assumption) ?_ (by first | (with_reducible exact Nat.le_refl _) | omega | (simp <;> omega))))))
  · simp only [cond_true]
    go_enter Tryd.func76, Tryd.ntmps76
    go_wp2_with (go_at_call 22; refine (r1_Neg _ _).mono ?_; rintro e wn ⟨rfl, hbn⟩; obtain ⟨hcn, hfn, hzn0, hzn1, hzn2, hzn3, hzn4, hzn5, hzn6, hzn7, hzn8⟩ := bcell hbn; (try simp only [World.size_drew] at hcn hfn hzn0 hzn1 hzn2 hzn3 hzn4 hzn5 hzn6 hzn7 hzn8); have hsn := hbn.size; (try simp at hsn); (try have hq0 : w.heap.size < wn.heap.size := by omega); (try have hq1 : w.heap.size + 1 < wn.heap.size := by omega); (try have hq2 : w.heap.size + 1 + 1 < wn.heap.size := by omega); (try have hq3 : w.heap.size + 1 + 1 + 1 < wn.heap.size := by omega); (try have hq4 : w.heap.size + 1 + 1 + 1 + 1 < wn.heap.size := by omega); (try have hq5 : w.heap.size + 1 + 1 + 1 + 1 + 1 < wn.heap.size := by omega); (try have hq6 : w.heap.size + 1 + 1 + 1 + 1 + 1 + 1 < wn.heap.size := by omega); (try have hq7 : w.heap.size + 1 + 1 + 1 + 1 + 1 + 1 + 1 < wn.heap.size := by omega); (try have hggx : gx < wn.heap.size := by omega); (try have hggy : gy < wn.heap.size := by omega); (try have hggz : gz < wn.heap.size := by omega); obtain ⟨M, hM, hcM, hfM⟩ := bcellM hbn; (try simp at hM); (try have hl0 : w.heap.size < M := by omega); (try have hcx0 := fun o => hcM (w.heap.size) o hl0); (try have hfx0 := fun o => hfM (w.heap.size) o hl0); (try clear hl0); (try have hl1 : w.heap.size + 1 < M := by omega); (try have hcx1 := fun o => hcM (w.heap.size + 1) o hl1); (try have hfx1 := fun o => hfM (w.heap.size + 1) o hl1); (try clear hl1); (try have hl2 : w.heap.size + 1 + 1 < M := by omega); (try have hcx2 := fun o => hcM (w.heap.size + 1 + 1) o hl2); (try have hfx2 := fun o => hfM (w.heap.size + 1 + 1) o hl2); (try clear hl2); (try have hl3 : w.heap.size + 1 + 1 + 1 < M := by omega); (try have hcx3 := fun o => hcM (w.heap.size + 1 + 1 + 1) o hl3); (try have hfx3 := fun o => hfM (w.heap.size + 1 + 1 + 1) o hl3); (try clear hl3); (try have hl4 : w.heap.size + 1 + 1 + 1 + 1 < M := by omega); (try have hcx4 := fun o => hcM (w.heap.size + 1 + 1 + 1 + 1) o hl4); (try have hfx4 := fun o => hfM (w.heap.size + 1 + 1 + 1 + 1) o hl4); (try clear hl4); (try have hl5 : w.heap.size + 1 + 1 + 1 + 1 + 1 < M := by omega); (try have hcx5 := fun o => hcM (w.heap.size + 1 + 1 + 1 + 1 + 1) o hl5); (try have hfx5 := fun o => hfM (w.heap.size + 1 + 1 + 1 + 1 + 1) o hl5); (try clear hl5); clear hcM hfM hM M)
    all_goals (simp (maxDischargeDepth := 8) [bodyPost, results, Tryd.results76, go_sem, *]; try (repeat (first | (with_reducible exact Below.refl _ _) | (with_reducible assumption) | (with_reducible refine Below.alloc ?_ (by first | (with_reducible exact Nat.le_refl _) | omega | (simp <;> omega)) _) | (with_reducible refine Below.setCell ?_ (by first | (with_reducible exact Nat.le_refl _) | omega | (simp <;> omega)) _) | (with_reducible refine Below.drew ?_) | (with_reducible refine bel_step (by assumption) ?_ (by first | (with_reducible exact Nat.le_refl _) | omega | (simp <;> omega))))))
set_option maxRecDepth 100000 in
set_option maxHeartbeats 1600000 in
theorem signed_great (c d : Int) (s : Bool) [U c] [U d] (h : 9223372036854775808 ≤ c) : Gives 76 #[.bool s, .agg #[.int .u64 0, .int .u64 0, .int .u64 c, .int .u64 d]] (.agg #[.int .i64 0, .int .u64 0, .int .i64 3]) := by
  intro w
  go_enter Tryd.func76, Tryd.ntmps76
  go_wp2_with (go_at_call 22; refine (r1_Neg _ _).mono ?_; rintro e wn ⟨rfl, hbn⟩; obtain ⟨hcn, hfn, hzn0, hzn1, hzn2, hzn3, hzn4, hzn5, hzn6, hzn7, hzn8⟩ := bcell hbn; (try simp only [World.size_drew] at hcn hfn hzn0 hzn1 hzn2 hzn3 hzn4 hzn5 hzn6 hzn7 hzn8); have hsn := hbn.size; (try simp at hsn); (try have hq0 : w.heap.size < wn.heap.size := by omega); (try have hq1 : w.heap.size + 1 < wn.heap.size := by omega); (try have hq2 : w.heap.size + 1 + 1 < wn.heap.size := by omega); (try have hq3 : w.heap.size + 1 + 1 + 1 < wn.heap.size := by omega); (try have hq4 : w.heap.size + 1 + 1 + 1 + 1 < wn.heap.size := by omega); (try have hq5 : w.heap.size + 1 + 1 + 1 + 1 + 1 < wn.heap.size := by omega); (try have hq6 : w.heap.size + 1 + 1 + 1 + 1 + 1 + 1 < wn.heap.size := by omega); (try have hq7 : w.heap.size + 1 + 1 + 1 + 1 + 1 + 1 + 1 < wn.heap.size := by omega); (try have hggx : gx < wn.heap.size := by omega); (try have hggy : gy < wn.heap.size := by omega); (try have hggz : gz < wn.heap.size := by omega); obtain ⟨M, hM, hcM, hfM⟩ := bcellM hbn; (try simp at hM); (try have hl0 : w.heap.size < M := by omega); (try have hcx0 := fun o => hcM (w.heap.size) o hl0); (try have hfx0 := fun o => hfM (w.heap.size) o hl0); (try clear hl0); (try have hl1 : w.heap.size + 1 < M := by omega); (try have hcx1 := fun o => hcM (w.heap.size + 1) o hl1); (try have hfx1 := fun o => hfM (w.heap.size + 1) o hl1); (try clear hl1); (try have hl2 : w.heap.size + 1 + 1 < M := by omega); (try have hcx2 := fun o => hcM (w.heap.size + 1 + 1) o hl2); (try have hfx2 := fun o => hfM (w.heap.size + 1 + 1) o hl2); (try clear hl2); (try have hl3 : w.heap.size + 1 + 1 + 1 < M := by omega); (try have hcx3 := fun o => hcM (w.heap.size + 1 + 1 + 1) o hl3); (try have hfx3 := fun o => hfM (w.heap.size + 1 + 1 + 1) o hl3); (try clear hl3); (try have hl4 : w.heap.size + 1 + 1 + 1 + 1 < M := by omega); (try have hcx4 := fun o => hcM (w.heap.size + 1 + 1 + 1 + 1) o hl4); (try have hfx4 := fun o => hfM (w.heap.size + 1 + 1 + 1 + 1) o hl4); (try clear hl4); (try have hl5 : w.heap.size + 1 + 1 + 1 + 1 + 1 < M := by omega); (try have hcx5 := fun o => hcM (w.heap.size + 1 + 1 + 1 + 1 + 1) o hl5); (try have hfx5 := fun o => hfM (w.heap.size + 1 + 1 + 1 + 1 + 1) o hl5); (try clear hl5); clear hcM hfM hM M)
  all_goals (simp (maxDischargeDepth := 8) [bodyPost, results, Tryd.results76, go_sem, *]; try (repeat (first | (with_reducible exact Below.refl _ _) | (with_reducible assumption) | (with_reducible refine Below.alloc ?_ (by first | (with_reducible exact Nat.le_refl _) | omega | (simp <;> omega)) _) | (with_reducible refine Below.setCell ?_ (by first | (with_reducible exact Nat.le_refl _) | omega | (simp <;> omega)) _) | (with_reducible refine Below.drew ?_) | (with_reducible refine bel_step (by assumption) ?_ (by first | (with_reducible exact Nat.le_refl _) | omega | (simp <;> omega))))))
set_option maxRecDepth 100000 in
set_option maxHeartbeats 1600000 in
theorem signed_high (a b c d : Int) (s : Bool) (h : ¬ a = 0) : Gives 76 #[.bool s, .agg #[.int .u64 a, .int .u64 b, .int .u64 c, .int .u64 d]] (.agg #[.int .i64 0, .int .u64 0, .int .i64 3]) := by
  intro w
  go_enter Tryd.func76, Tryd.ntmps76
  go_wp2_with fail
  all_goals (simp (maxDischargeDepth := 8) [bodyPost, results, Tryd.results76, go_sem, *]; try (repeat (first | (with_reducible exact Below.refl _ _) | (with_reducible assumption) | (with_reducible refine Below.alloc ?_ (by first | (with_reducible exact Nat.le_refl _) | omega | (simp <;> omega)) _) | (with_reducible refine Below.setCell ?_ (by first | (with_reducible exact Nat.le_refl _) | omega | (simp <;> omega)) _) | (with_reducible refine Below.drew ?_) | (with_reducible refine bel_step (by assumption) ?_ (by first | (with_reducible exact Nat.le_refl _) | omega | (simp <;> omega))))))
set_option maxRecDepth 100000 in
set_option maxHeartbeats 1600000 in
theorem signed_low (b c d : Int) (s : Bool) (h : ¬ b = 0) : Gives 76 #[.bool s, .agg #[.int .u64 0, .int .u64 b, .int .u64 c, .int .u64 d]] (.agg #[.int .i64 0, .int .u64 0, .int .i64 3]) := by
  intro w
  go_enter Tryd.func76, Tryd.ntmps76
  go_wp2_with fail
  all_goals (simp (maxDischargeDepth := 8) [bodyPost, results, Tryd.results76, go_sem, *]; try (repeat (first | (with_reducible exact Below.refl _ _) | (with_reducible assumption) | (with_reducible refine Below.alloc ?_ (by first | (with_reducible exact Nat.le_refl _) | omega | (simp <;> omega)) _) | (with_reducible refine Below.setCell ?_ (by first | (with_reducible exact Nat.le_refl _) | omega | (simp <;> omega)) _) | (with_reducible refine Below.drew ?_) | (with_reducible refine bel_step (by assumption) ?_ (by first | (with_reducible exact Nat.le_refl _) | omega | (simp <;> omega))))))
theorem r1_signed (a b c d : Int) (s : Bool) [ha : U a] [hb : U b] [hc : U c] [hd : U d] : Gives 76 #[.bool s, .agg #[.int .u64 a, .int .u64 b, .int .u64 c, .int .u64 d]] (got (tell (val4 a b c d) s)) := by
  by_cases h1 : a = 0
  · subst h1
    by_cases h2 : b = 0
    · subst h2
      by_cases h3 : 9223372036854775808 ≤ c
      · rw [tell_great 0 0 c d s (.inr h3), got_error]; exact signed_great c d s h3
      · obtain ⟨e, hF⟩ := tell_small 0 0 c d s (by decide) (by omega)
        rw [e]
        have := signed_ok (val2 c d) s
        rwa [hi_val2, lo_val2] at this
    · rw [tell_great 0 b c d s (.inl (by simpa using h2)), got_error]; exact signed_low b c d s h2
  · rw [tell_great a b c d s (.inl (by simp [h1])), got_error]; exact signed_high a b c d s h1
end Go.Proofs.YtpbklojdmkpkcaaDoor
