/- vec: both numbers of a way. -/
import Derived.Test.YtpbklojdmkpkcaaDoorFixE
namespace Go.Proofs.YtpbklojdmkpkcaaDoor
open Go.RowKit
set_option linter.unusedSimpArgs false
set_option linter.unusedVariables false
/-- An error is never nought. -/
class E {α : Type} (x : Except Int α) : Prop where
  h : ∀ e, x = .error e → e ≠ 0
instance (n : Int) (b : Bool) : E (tell n b) := ⟨fun e h => by unfold tell at h; split at h <;> cases h; decide⟩
instance (a b : Int) : E (addF a b) := ⟨fun e h => by unfold addF at h; split at h <;> cases h; decide⟩
instance (a b : Int) : E (subF a b) := by unfold subF; infer_instance
instance (a b : Int) : E (mulF a b) := by unfold mulF; infer_instance
theorem E_ok {x : Except Int Int} [hx : E x] (h : (errF x != 0) = false) : x = .ok (valF x) := by
  cases x with
  | ok r => rfl
  | error e => have := hx.h e rfl; simp [errF] at h; exact absurd h this
theorem E_err {x : Except Int Int} (h : (errF x != 0) = true) : x = .error (errF x) := by
  cases x with
  | ok r => simp [errF] at h
  | error e => rfl
/-- A way with an error. -/
def valX : Except Int (Int × Int) → Int
  | .ok r => r.1
  | .error _ => 0
def valY : Except Int (Int × Int) → Int
  | .ok r => r.2
  | .error _ => 0
def errW : Except Int (Int × Int) → Int
  | .ok _ => 0
  | .error e => e
abbrev way (x : Except Int (Int × Int)) : Value := .tuple #[vec (valX x) (valY x), .int .i64 (errW x)]
theorem way_ok (x y : Int) : way (.ok (x, y)) = .tuple #[vec x y, .int .i64 0] := rfl
theorem way_error (e : Int) : way (.error e) = .tuple #[.agg #[.int .i64 0, .int .u64 0, .int .i64 0, .int .u64 0], .int .i64 e] := by
  unfold way vec; simp only [valX, valY, errW]; rw [hi_0, lo_0]
def both : Except Int Int → Except Int Int → Except Int (Int × Int)
  | .ok x, .ok y => .ok (x, y)
  | .ok _, .error e => .error e
  | .error e, _ => .error e
instance (x y : Except Int Int) [hx : E x] [hy : E y] : E (both x y) := ⟨fun e h => by
  cases x <;> cases y <;> simp [both] at h
  · exact h ▸ hx.h _ rfl
  · exact h ▸ hx.h _ rfl
  · exact h ▸ hy.h _ rfl⟩
theorem both_ok {x y : Except Int Int} [E x] [E y] (h1 : (errF x != 0) = false) (h2 : (errF y != 0) = false) : both x y = .ok (valF x, valF y) := by
  rw [E_ok h1, E_ok h2]; rfl
theorem both_err1 {x y : Except Int Int} (h1 : (errF x != 0) = true) : both x y = .error (errF x) := by
  rw [E_err h1]; rfl
theorem both_err2 {x y : Except Int Int} [E x] (h1 : (errF x != 0) = false) (h2 : (errF y != 0) = true) : both x y = .error (errF y) := by
  rw [E_ok h1, E_err h2]; rfl
theorem EW_ok {x : Except Int (Int × Int)} [hx : E x] (h : (errW x != 0) = false) : x = .ok (valX x, valY x) := by
  cases x with
  | ok r => rfl
  | error e => have := hx.h e rfl; simp [errW] at h; exact absurd h this
theorem EW_err {x : Except Int (Int × Int)} (h : (errW x != 0) = true) : x = .error (errW x) := by
  cases x with
  | ok r => simp [errW] at h
  | error e => rfl
set_option maxHeartbeats 1600000 in
theorem each_Mul (ax ay bx b_y : Int) [F ax] [F ay] [F bx] [F b_y] : Gives 127 #[vec ax ay, vec bx b_y, .func (.func 82) #[] #[]] (way (both (mulF ax bx) (mulF ay b_y))) := by
  intro w
  go_enter Tryd.func127, Tryd.ntmps127
  go_wp2_with (go_at_call 82; refine (fix_Mul _ _ _).mono ?_; rintro e wn ⟨rfl, hbn⟩; obtain ⟨hcn, hfn, hzn0, hzn1, hzn2, hzn3, hzn4, hzn5, hzn6, hzn7, hzn8⟩ := bcell hbn; (try simp only [World.size_drew] at hcn hfn hzn0 hzn1 hzn2 hzn3 hzn4 hzn5 hzn6 hzn7 hzn8); have hsn := hbn.size; (try simp at hsn); (try have hq0 : w.heap.size < wn.heap.size := by omega); (try have hq1 : w.heap.size + 1 < wn.heap.size := by omega); (try have hq2 : w.heap.size + 1 + 1 < wn.heap.size := by omega); (try have hq3 : w.heap.size + 1 + 1 + 1 < wn.heap.size := by omega); (try have hq4 : w.heap.size + 1 + 1 + 1 + 1 < wn.heap.size := by omega); (try have hq5 : w.heap.size + 1 + 1 + 1 + 1 + 1 < wn.heap.size := by omega); (try have hq6 : w.heap.size + 1 + 1 + 1 + 1 + 1 + 1 < wn.heap.size := by omega); (try have hq7 : w.heap.size + 1 + 1 + 1 + 1 + 1 + 1 + 1 < wn.heap.size := by omega); (try have hggx : gx < wn.heap.size := by omega); (try have hggy : gy < wn.heap.size := by omega); (try have hggz : gz < wn.heap.size := by omega))
  · rw [both_err1 ‹_›, way_error]
    (simp (maxDischargeDepth := 8) [bodyPost, results, Tryd.results127, go_sem, *]; try (repeat (first | (with_reducible exact Below.refl _ _) | (with_reducible assumption) | (with_reducible refine Below.alloc ?_ (by first | (with_reducible exact Nat.le_refl _) | omega | (simp <;> omega)) _) | (with_reducible refine Below.setCell ?_ (by first | (with_reducible exact Nat.le_refl _) | omega | (simp <;> omega)) _) | (with_reducible refine Below.drew ?_) | (with_reducible refine bel_step (by assumption) ?_ (by first | (with_reducible exact Nat.le_refl _) | omega | (simp <;> omega))))))
  · rw [both_err2 (by assumption) (by assumption), way_error]
    (simp (maxDischargeDepth := 8) [bodyPost, results, Tryd.results127, go_sem, *]; try (repeat (first | (with_reducible exact Below.refl _ _) | (with_reducible assumption) | (with_reducible refine Below.alloc ?_ (by first | (with_reducible exact Nat.le_refl _) | omega | (simp <;> omega)) _) | (with_reducible refine Below.setCell ?_ (by first | (with_reducible exact Nat.le_refl _) | omega | (simp <;> omega)) _) | (with_reducible refine Below.drew ?_) | (with_reducible refine bel_step (by assumption) ?_ (by first | (with_reducible exact Nat.le_refl _) | omega | (simp <;> omega))))))
  · rw [both_ok (by assumption) (by assumption), way_ok]
    (simp (maxDischargeDepth := 8) [bodyPost, results, Tryd.results127, go_sem, *]; try (repeat (first | (with_reducible exact Below.refl _ _) | (with_reducible assumption) | (with_reducible refine Below.alloc ?_ (by first | (with_reducible exact Nat.le_refl _) | omega | (simp <;> omega)) _) | (with_reducible refine Below.setCell ?_ (by first | (with_reducible exact Nat.le_refl _) | omega | (simp <;> omega)) _) | (with_reducible refine Below.drew ?_) | (with_reducible refine bel_step (by assumption) ?_ (by first | (with_reducible exact Nat.le_refl _) | omega | (simp <;> omega))))))
set_option maxHeartbeats 1600000 in
theorem each_Add (ax ay bx b_y : Int) [F ax] [F ay] [F bx] [F b_y] : Gives 127 #[vec ax ay, vec bx b_y, .func (.func 115) #[] #[]] (way (both (addF ax bx) (addF ay b_y))) := by
  intro w
  go_enter Tryd.func127, Tryd.ntmps127
  go_wp2_with (go_at_call 115; refine (fix_Add _ _ _).mono ?_; rintro e wn ⟨rfl, hbn⟩; obtain ⟨hcn, hfn, hzn0, hzn1, hzn2, hzn3, hzn4, hzn5, hzn6, hzn7, hzn8⟩ := bcell hbn; (try simp only [World.size_drew] at hcn hfn hzn0 hzn1 hzn2 hzn3 hzn4 hzn5 hzn6 hzn7 hzn8); have hsn := hbn.size; (try simp at hsn); (try have hq0 : w.heap.size < wn.heap.size := by omega); (try have hq1 : w.heap.size + 1 < wn.heap.size := by omega); (try have hq2 : w.heap.size + 1 + 1 < wn.heap.size := by omega); (try have hq3 : w.heap.size + 1 + 1 + 1 < wn.heap.size := by omega); (try have hq4 : w.heap.size + 1 + 1 + 1 + 1 < wn.heap.size := by omega); (try have hq5 : w.heap.size + 1 + 1 + 1 + 1 + 1 < wn.heap.size := by omega); (try have hq6 : w.heap.size + 1 + 1 + 1 + 1 + 1 + 1 < wn.heap.size := by omega); (try have hq7 : w.heap.size + 1 + 1 + 1 + 1 + 1 + 1 + 1 < wn.heap.size := by omega); (try have hggx : gx < wn.heap.size := by omega); (try have hggy : gy < wn.heap.size := by omega); (try have hggz : gz < wn.heap.size := by omega))
  · rw [both_err1 ‹_›, way_error]
    (simp (maxDischargeDepth := 8) [bodyPost, results, Tryd.results127, go_sem, *]; try (repeat (first | (with_reducible exact Below.refl _ _) | (with_reducible assumption) | (with_reducible refine Below.alloc ?_ (by first | (with_reducible exact Nat.le_refl _) | omega | (simp <;> omega)) _) | (with_reducible refine Below.setCell ?_ (by first | (with_reducible exact Nat.le_refl _) | omega | (simp <;> omega)) _) | (with_reducible refine Below.drew ?_) | (with_reducible refine bel_step (by assumption) ?_ (by first | (with_reducible exact Nat.le_refl _) | omega | (simp <;> omega))))))
  · rw [both_err2 (by assumption) (by assumption), way_error]
    (simp (maxDischargeDepth := 8) [bodyPost, results, Tryd.results127, go_sem, *]; try (repeat (first | (with_reducible exact Below.refl _ _) | (with_reducible assumption) | (with_reducible refine Below.alloc ?_ (by first | (with_reducible exact Nat.le_refl _) | omega | (simp <;> omega)) _) | (with_reducible refine Below.setCell ?_ (by first | (with_reducible exact Nat.le_refl _) | omega | (simp <;> omega)) _) | (with_reducible refine Below.drew ?_) | (with_reducible refine bel_step (by assumption) ?_ (by first | (with_reducible exact Nat.le_refl _) | omega | (simp <;> omega))))))
  · rw [both_ok (by assumption) (by assumption), way_ok]
    (simp (maxDischargeDepth := 8) [bodyPost, results, Tryd.results127, go_sem, *]; try (repeat (first | (with_reducible exact Below.refl _ _) | (with_reducible assumption) | (with_reducible refine Below.alloc ?_ (by first | (with_reducible exact Nat.le_refl _) | omega | (simp <;> omega)) _) | (with_reducible refine Below.setCell ?_ (by first | (with_reducible exact Nat.le_refl _) | omega | (simp <;> omega)) _) | (with_reducible refine Below.drew ?_) | (with_reducible refine bel_step (by assumption) ?_ (by first | (with_reducible exact Nat.le_refl _) | omega | (simp <;> omega))))))
set_option maxHeartbeats 1600000 in
theorem each_Sub (ax ay bx b_y : Int) [F ax] [F ay] [F bx] [F b_y] : Gives 127 #[vec ax ay, vec bx b_y, .func (.func 83) #[] #[]] (way (both (subF ax bx) (subF ay b_y))) := by
  intro w
  go_enter Tryd.func127, Tryd.ntmps127
  go_wp2_with (go_at_call 83; refine (fix_Sub _ _ _).mono ?_; rintro e wn ⟨rfl, hbn⟩; obtain ⟨hcn, hfn, hzn0, hzn1, hzn2, hzn3, hzn4, hzn5, hzn6, hzn7, hzn8⟩ := bcell hbn; (try simp only [World.size_drew] at hcn hfn hzn0 hzn1 hzn2 hzn3 hzn4 hzn5 hzn6 hzn7 hzn8); have hsn := hbn.size; (try simp at hsn); (try have hq0 : w.heap.size < wn.heap.size := by omega); (try have hq1 : w.heap.size + 1 < wn.heap.size := by omega); (try have hq2 : w.heap.size + 1 + 1 < wn.heap.size := by omega); (try have hq3 : w.heap.size + 1 + 1 + 1 < wn.heap.size := by omega); (try have hq4 : w.heap.size + 1 + 1 + 1 + 1 < wn.heap.size := by omega); (try have hq5 : w.heap.size + 1 + 1 + 1 + 1 + 1 < wn.heap.size := by omega); (try have hq6 : w.heap.size + 1 + 1 + 1 + 1 + 1 + 1 < wn.heap.size := by omega); (try have hq7 : w.heap.size + 1 + 1 + 1 + 1 + 1 + 1 + 1 < wn.heap.size := by omega); (try have hggx : gx < wn.heap.size := by omega); (try have hggy : gy < wn.heap.size := by omega); (try have hggz : gz < wn.heap.size := by omega))
  · rw [both_err1 ‹_›, way_error]
    (simp (maxDischargeDepth := 8) [bodyPost, results, Tryd.results127, go_sem, *]; try (repeat (first | (with_reducible exact Below.refl _ _) | (with_reducible assumption) | (with_reducible refine Below.alloc ?_ (by first | (with_reducible exact Nat.le_refl _) | omega | (simp <;> omega)) _) | (with_reducible refine Below.setCell ?_ (by first | (with_reducible exact Nat.le_refl _) | omega | (simp <;> omega)) _) | (with_reducible refine Below.drew ?_) | (with_reducible refine bel_step (by assumption) ?_ (by first | (with_reducible exact Nat.le_refl _) | omega | (simp <;> omega))))))
  · rw [both_err2 (by assumption) (by assumption), way_error]
    (simp (maxDischargeDepth := 8) [bodyPost, results, Tryd.results127, go_sem, *]; try (repeat (first | (with_reducible exact Below.refl _ _) | (with_reducible assumption) | (with_reducible refine Below.alloc ?_ (by first | (with_reducible exact Nat.le_refl _) | omega | (simp <;> omega)) _) | (with_reducible refine Below.setCell ?_ (by first | (with_reducible exact Nat.le_refl _) | omega | (simp <;> omega)) _) | (with_reducible refine Below.drew ?_) | (with_reducible refine bel_step (by assumption) ?_ (by first | (with_reducible exact Nat.le_refl _) | omega | (simp <;> omega))))))
  · rw [both_ok (by assumption) (by assumption), way_ok]
    (simp (maxDischargeDepth := 8) [bodyPost, results, Tryd.results127, go_sem, *]; try (repeat (first | (with_reducible exact Below.refl _ _) | (with_reducible assumption) | (with_reducible refine Below.alloc ?_ (by first | (with_reducible exact Nat.le_refl _) | omega | (simp <;> omega)) _) | (with_reducible refine Below.setCell ?_ (by first | (with_reducible exact Nat.le_refl _) | omega | (simp <;> omega)) _) | (with_reducible refine Below.drew ?_) | (with_reducible refine bel_step (by assumption) ?_ (by first | (with_reducible exact Nat.le_refl _) | omega | (simp <;> omega))))))
set_option maxHeartbeats 1600000 in
theorem vec_Scale (ax ay k : Int) [F ax] [F ay] [F k] : Gives 106 #[vec ax ay, fx k] (way (both (mulF ax k) (mulF ay k))) := by
  intro w
  go_enter Tryd.func106, Tryd.ntmps106
  go_wp2_with (go_at_call 127; refine (each_Mul _ _ _ _ _).mono ?_; rintro e wn ⟨rfl, hbn⟩; obtain ⟨hcn, hfn, hzn0, hzn1, hzn2, hzn3, hzn4, hzn5, hzn6, hzn7, hzn8⟩ := bcell hbn; (try simp only [World.size_drew] at hcn hfn hzn0 hzn1 hzn2 hzn3 hzn4 hzn5 hzn6 hzn7 hzn8); have hsn := hbn.size; (try simp at hsn); (try have hq0 : w.heap.size < wn.heap.size := by omega); (try have hq1 : w.heap.size + 1 < wn.heap.size := by omega); (try have hq2 : w.heap.size + 1 + 1 < wn.heap.size := by omega); (try have hq3 : w.heap.size + 1 + 1 + 1 < wn.heap.size := by omega); (try have hq4 : w.heap.size + 1 + 1 + 1 + 1 < wn.heap.size := by omega); (try have hq5 : w.heap.size + 1 + 1 + 1 + 1 + 1 < wn.heap.size := by omega); (try have hq6 : w.heap.size + 1 + 1 + 1 + 1 + 1 + 1 < wn.heap.size := by omega); (try have hq7 : w.heap.size + 1 + 1 + 1 + 1 + 1 + 1 + 1 < wn.heap.size := by omega); (try have hggx : gx < wn.heap.size := by omega); (try have hggy : gy < wn.heap.size := by omega); (try have hggz : gz < wn.heap.size := by omega))
  (simp (maxDischargeDepth := 8) [bodyPost, results, Tryd.results106, go_sem, *]; try (repeat (first | (with_reducible exact Below.refl _ _) | (with_reducible assumption) | (with_reducible refine Below.alloc ?_ (by first | (with_reducible exact Nat.le_refl _) | omega | (simp <;> omega)) _) | (with_reducible refine Below.setCell ?_ (by first | (with_reducible exact Nat.le_refl _) | omega | (simp <;> omega)) _) | (with_reducible refine Below.drew ?_) | (with_reducible refine bel_step (by assumption) ?_ (by first | (with_reducible exact Nat.le_refl _) | omega | (simp <;> omega))))))
set_option maxHeartbeats 1600000 in
theorem vec_Add (ax ay bx b_y : Int) [F ax] [F ay] [F bx] [F b_y] : Gives 86 #[vec ax ay, vec bx b_y] (way (both (addF ax bx) (addF ay b_y))) := by
  intro w
  go_enter Tryd.func86, Tryd.ntmps86
  go_wp2_with (go_at_call 127; refine (each_Add _ _ _ _ _).mono ?_; rintro e wn ⟨rfl, hbn⟩; obtain ⟨hcn, hfn, hzn0, hzn1, hzn2, hzn3, hzn4, hzn5, hzn6, hzn7, hzn8⟩ := bcell hbn; (try simp only [World.size_drew] at hcn hfn hzn0 hzn1 hzn2 hzn3 hzn4 hzn5 hzn6 hzn7 hzn8); have hsn := hbn.size; (try simp at hsn); (try have hq0 : w.heap.size < wn.heap.size := by omega); (try have hq1 : w.heap.size + 1 < wn.heap.size := by omega); (try have hq2 : w.heap.size + 1 + 1 < wn.heap.size := by omega); (try have hq3 : w.heap.size + 1 + 1 + 1 < wn.heap.size := by omega); (try have hq4 : w.heap.size + 1 + 1 + 1 + 1 < wn.heap.size := by omega); (try have hq5 : w.heap.size + 1 + 1 + 1 + 1 + 1 < wn.heap.size := by omega); (try have hq6 : w.heap.size + 1 + 1 + 1 + 1 + 1 + 1 < wn.heap.size := by omega); (try have hq7 : w.heap.size + 1 + 1 + 1 + 1 + 1 + 1 + 1 < wn.heap.size := by omega); (try have hggx : gx < wn.heap.size := by omega); (try have hggy : gy < wn.heap.size := by omega); (try have hggz : gz < wn.heap.size := by omega))
  (simp (maxDischargeDepth := 8) [bodyPost, results, Tryd.results86, go_sem, *]; try (repeat (first | (with_reducible exact Below.refl _ _) | (with_reducible assumption) | (with_reducible refine Below.alloc ?_ (by first | (with_reducible exact Nat.le_refl _) | omega | (simp <;> omega)) _) | (with_reducible refine Below.setCell ?_ (by first | (with_reducible exact Nat.le_refl _) | omega | (simp <;> omega)) _) | (with_reducible refine Below.drew ?_) | (with_reducible refine bel_step (by assumption) ?_ (by first | (with_reducible exact Nat.le_refl _) | omega | (simp <;> omega))))))
end Go.Proofs.YtpbklojdmkpkcaaDoor
