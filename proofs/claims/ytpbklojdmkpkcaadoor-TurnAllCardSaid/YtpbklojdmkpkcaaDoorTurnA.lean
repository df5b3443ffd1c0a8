/- turn: a quarter; by one direction. -/
import Derived.Test.YtpbklojdmkpkcaaDoorVec
namespace Go.Proofs.YtpbklojdmkpkcaaDoor
open Go.RowKit
set_option linter.unusedSimpArgs false
set_option linter.unusedVariables false
instance : F 0 := ⟨by decide⟩
theorem F_val {x : Except Int Int} (h : ∀ r, x = .ok r → F r) : F (valF x) := by
  cases x with
  | ok r => exact h r rfl
  | error e => exact (inferInstance : F 0)
instance (a b : Int) : F (valF (addF a b)) := F_val fun _ h => addF_F h
instance (a b : Int) : F (valF (subF a b)) := F_val fun _ h => addF_F h
instance (a b : Int) : F (valF (mulF a b)) := F_val fun _ h => mulF_F h
instance (x y : Except Int Int) [hx : F (valF x)] : F (valX (both x y)) := by cases x <;> cases y <;> first | exact hx | exact (inferInstance : F 0)
instance (x y : Except Int Int) [hy : F (valF y)] : F (valY (both x y)) := by cases x <;> cases y <;> first | exact hy | exact (inferInstance : F 0)

set_option maxHeartbeats 1600000 in
theorem turn_quarter (x y : Int) [F x] [F y] : Gives 68 #[vec x y] (vec (-y) x) := by
  intro w
  go_enter Tryd.func68, Tryd.ntmps68
  go_wp2_with fail
  go_region_held3 (fun w' => w'.cell? ⟨w.heap.size, 0, none⟩ = some (.int .i64 (hi x)) ∧ w'.cell? ⟨w.heap.size, 1, none⟩ = some (.int .u64 (lo x)) ∧ w'.cell? ⟨w.heap.size, 2, none⟩ = some (.int .i64 (hi y)) ∧ w'.cell? ⟨w.heap.size, 3, none⟩ = some (.int .u64 (lo y)))
    (simp (maxDischargeDepth := 8) [go_sem, *]) (first | (go_at_call 107; refine (fix_Neg _ _).mono ?_; rintro e wn ⟨rfl, hbn⟩; obtain ⟨hcn, hfn, hzn0, hzn1, hzn2, hzn3, hzn4, hzn5, hzn6, hzn7, hzn8⟩ := bcell hbn; (try simp only [World.size_drew] at hcn hfn hzn0 hzn1 hzn2 hzn3 hzn4 hzn5 hzn6 hzn7 hzn8); have hsn := hbn.size; (try simp at hsn); (try have hq0 : w.heap.size < wn.heap.size := by omega); (try have hq1 : w.heap.size + 1 < wn.heap.size := by omega); (try have hq2 : w.heap.size + 1 + 1 < wn.heap.size := by omega); (try have hq3 : w.heap.size + 1 + 1 + 1 < wn.heap.size := by omega); (try have hq4 : w.heap.size + 1 + 1 + 1 + 1 < wn.heap.size := by omega); (try have hq5 : w.heap.size + 1 + 1 + 1 + 1 + 1 < wn.heap.size := by omega); (try have hq6 : w.heap.size + 1 + 1 + 1 + 1 + 1 + 1 < wn.heap.size := by omega); (try have hq7 : w.heap.size + 1 + 1 + 1 + 1 + 1 + 1 + 1 < wn.heap.size := by omega); (try have hggx : gx < wn.heap.size := by omega); (try have hggy : gy < wn.heap.size := by omega); (try have hggz : gz < wn.heap.size := by omega)))
  all_goals go_wp2_with fail
  all_goals (simp (maxDischargeDepth := 8) [bodyPost, results, Tryd.results68, go_sem, *]; try (repeat (first | (with_reducible exact Below.refl _ _) | (with_reducible assumption) | (with_reducible refine Below.alloc ?_ (by first | (with_reducible exact Nat.le_refl _) | omega | (simp <;> omega)) _) | (with_reducible refine Below.setCell ?_ (by first | (with_reducible exact Nat.le_refl _) | omega | (simp <;> omega)) _) | (with_reducible refine Below.drew ?_) | (with_reducible refine bel_step (by assumption) ?_ (by first | (with_reducible exact Nat.le_refl _) | omega | (simp <;> omega))))))

/-- What a way turned by a direction is, or the error. -/
def byP (x dx y : Int) : Except Int (Int × Int) := both (mulF x dx) (mulF y dx)
instance (x dx y : Int) : E (byP x dx y) := by unfold byP; infer_instance
instance (x dx y : Int) : F (valX (byP x dx y)) := by unfold byP; infer_instance
instance (x dx y : Int) : F (valY (byP x dx y)) := by unfold byP; infer_instance
def byS (x y dx dy : Int) : Except Int (Int × Int) := both (addF (valX (byP x dx y)) (valX (byP (-y) dy x))) (addF (valY (byP x dx y)) (valY (byP (-y) dy x)))
instance (x y dx dy : Int) : E (byS x y dx dy) := by unfold byS; infer_instance
instance (x y dx dy : Int) : F (valX (byS x y dx dy)) := by unfold byS; infer_instance
instance (x y dx dy : Int) : F (valY (byS x y dx dy)) := by unfold byS; infer_instance
def byF (x y dx dy : Int) : Except Int (Int × Int) :=
  if (errW (byP x dx y) != 0) = true then .error (errW (byP x dx y)) else if (errW (byP (-y) dy x) != 0) = true then .error (errW (byP (-y) dy x)) else byS x y dx dy
instance (x y dx dy : Int) : E (byF x y dx dy) := ⟨fun e h => by
  unfold byF at h
  split at h
  · rename_i h1; cases h; simpa using h1
  · split at h
    · rename_i h1; cases h; simpa using h1
    · exact E.h _ h⟩
def byX (x y dx dy : Int) : Int := if (errW (byP x dx y) != 0) = true then x else if (errW (byP (-y) dy x) != 0) = true then x else valX (byS x y dx dy)
def byY (x y dx dy : Int) : Int := if (errW (byP x dx y) != 0) = true then y else if (errW (byP (-y) dy x) != 0) = true then y else valY (byS x y dx dy)
instance (x y dx dy : Int) [hx : F x] : F (byX x y dx dy) := by unfold byX; split; exact hx; split; exact hx; infer_instance
instance (x y dx dy : Int) [hx : F y] : F (byY x y dx dy) := by unfold byY; split; exact hx; split; exact hx; infer_instance
theorem byX_ok {x y dx dy : Int} (h : (errW (byF x y dx dy) != 0) = false) : byF x y dx dy = .ok (byX x y dx dy, byY x y dx dy) := by
  have := EW_ok h
  unfold byF byX byY at *
  split
  · rename_i h1; rw [if_pos h1] at h; simp [errW] at h; simp at h1; exact absurd h h1
  · rename_i h1; rw [if_neg h1] at h this; 
    split
    · rename_i h2; rw [if_pos h2] at h; simp [errW] at h; simp at h2; exact absurd h h2
    · rename_i h2; rw [if_neg h2] at this; exact this
theorem by_1 {x y dx dy : Int} (h : (errW (byP x dx y) != 0) = true) : byX x y dx dy = x ∧ byY x y dx dy = y ∧ errW (byF x y dx dy) = errW (byP x dx y) := by
  unfold byX byY byF; rw [if_pos h, if_pos h, if_pos h]; exact ⟨rfl, rfl, rfl⟩
theorem by_2 {x y dx dy : Int} (h : (errW (byP x dx y) != 0) = false) (h2 : (errW (byP (-y) dy x) != 0) = true) : byX x y dx dy = x ∧ byY x y dx dy = y ∧ errW (byF x y dx dy) = errW (byP (-y) dy x) := by
  unfold byX byY byF; simp [h, h2]; simp [errW]
theorem by_3 {x y dx dy : Int} (h : (errW (byP x dx y) != 0) = false) (h2 : (errW (byP (-y) dy x) != 0) = false) : byX x y dx dy = valX (byS x y dx dy) ∧ byY x y dx dy = valY (byS x y dx dy) ∧ errW (byF x y dx dy) = errW (byS x y dx dy) := by
  unfold byX byY byF; simp [h, h2]
theorem scale_byP (x y k : Int) [F x] [F y] [F k] : Gives 106 #[vec x y, fx k] (way (byP x k y)) := vec_Scale x y k
theorem add_byS (x y dx dy : Int) : Gives 86 #[vec (valX (byP x dx y)) (valY (byP x dx y)), vec (valX (byP (-y) dy x)) (valY (byP (-y) dy x))] (way (byS x y dx dy)) := vec_Add _ _ _ _

/-- A way in a block of its own, made since W. -/
def NewVec (W : World) (x y : Int) (s : Value) (wx : World) : Prop :=
  ∃ g : Nat, s = .pointer (some ⟨g, 0, none⟩) ∧ W.heap.size ≤ g ∧ g < wx.heap.size ∧ Below W.heap.size W wx ∧
    wx.cell? ⟨g, 0, none⟩ = some (.int .i64 (hi x)) ∧ wx.cell? ⟨g, 1, none⟩ = some (.int .u64 (lo x)) ∧ wx.cell? ⟨g, 2, none⟩ = some (.int .i64 (hi y)) ∧ wx.cell? ⟨g, 3, none⟩ = some (.int .u64 (lo y))
set_option maxHeartbeats 3200000 in
theorem turn_by (x y dx dy : Int) [F x] [F y] [F dx] [F dy] : Gives 67 #[vec x y, vec dx dy] (.tuple #[vec (byX x y dx dy) (byY x y dx dy), .int .i64 (errW (byF x y dx dy))]) := by
  intro w
  cases h1 : (errW (byP x dx y) != 0)
  · go_enter Tryd.func67, Tryd.ntmps67
    go_upto_region 4 with ((go_at_call 106; refine (scale_byP _ _ _ _).mono ?_; rintro e wn ⟨rfl, hbn⟩; obtain ⟨hcn, hfn, hzn0, hzn1, hzn2, hzn3, hzn4, hzn5, hzn6, hzn7, hzn8⟩ := bcell hbn; (try simp only [World.size_drew] at hcn hfn hzn0 hzn1 hzn2 hzn3 hzn4 hzn5 hzn6 hzn7 hzn8); have hsn := hbn.size; (try simp at hsn); (try have hq0 : w.heap.size < wn.heap.size := by omega); (try have hq1 : w.heap.size + 1 < wn.heap.size := by omega); (try have hq2 : w.heap.size + 1 + 1 < wn.heap.size := by omega); (try have hq3 : w.heap.size + 1 + 1 + 1 < wn.heap.size := by omega); (try have hq4 : w.heap.size + 1 + 1 + 1 + 1 < wn.heap.size := by omega); (try have hq5 : w.heap.size + 1 + 1 + 1 + 1 + 1 < wn.heap.size := by omega); (try have hq6 : w.heap.size + 1 + 1 + 1 + 1 + 1 + 1 < wn.heap.size := by omega); (try have hq7 : w.heap.size + 1 + 1 + 1 + 1 + 1 + 1 + 1 < wn.heap.size := by omega); (try have hggx : gx < wn.heap.size := by omega); (try have hggy : gy < wn.heap.size := by omega); (try have hggz : gz < wn.heap.size := by omega)))
    go_cut [7, 8] (fun s7 s8 wx => s7 = .int .i64 (errW (byP (-y) dy x)) ∧ NewVec (wn.alloc (.cells #[.int .i64 (hi (valX (byP x dx y))), .int .u64 (lo (valX (byP x dx y))), .int .i64 (hi (valY (byP x dx y))), .int .u64 (lo (valY (byP x dx y)))] 26)) (valX (byP (-y) dy x)) (valY (byP (-y) dy x)) s8 wx)
    case first =>
      go_region_held3 (fun w' => w'.cell? ⟨w.heap.size, 0, none⟩ = some (.int .i64 (hi x)) ∧ w'.cell? ⟨w.heap.size, 1, none⟩ = some (.int .u64 (lo x)) ∧ w'.cell? ⟨w.heap.size, 2, none⟩ = some (.int .i64 (hi y)) ∧ w'.cell? ⟨w.heap.size, 3, none⟩ = some (.int .u64 (lo y)) ∧
          w'.cell? ⟨w.heap.size + 1, 2, none⟩ = some (.int .i64 (hi dy)) ∧ w'.cell? ⟨w.heap.size + 1, 3, none⟩ = some (.int .u64 (lo dy)))
        (simp (maxDischargeDepth := 8) [go_sem, *]) (first | (go_at_call 68; refine (turn_quarter _ _ _).mono ?_; rintro e wn ⟨rfl, hbn⟩; obtain ⟨hcn, hfn, hzn0, hzn1, hzn2, hzn3, hzn4, hzn5, hzn6, hzn7, hzn8⟩ := bcell hbn; (try simp only [World.size_drew] at hcn hfn hzn0 hzn1 hzn2 hzn3 hzn4 hzn5 hzn6 hzn7 hzn8); have hsn := hbn.size; (try simp at hsn); (try have hq0 : w.heap.size < wn.heap.size := by omega); (try have hq1 : w.heap.size + 1 < wn.heap.size := by omega); (try have hq2 : w.heap.size + 1 + 1 < wn.heap.size := by omega); (try have hq3 : w.heap.size + 1 + 1 + 1 < wn.heap.size := by omega); (try have hq4 : w.heap.size + 1 + 1 + 1 + 1 < wn.heap.size := by omega); (try have hq5 : w.heap.size + 1 + 1 + 1 + 1 + 1 < wn.heap.size := by omega); (try have hq6 : w.heap.size + 1 + 1 + 1 + 1 + 1 + 1 < wn.heap.size := by omega); (try have hq7 : w.heap.size + 1 + 1 + 1 + 1 + 1 + 1 + 1 < wn.heap.size := by omega); (try have hggx : gx < wn.heap.size := by omega); (try have hggy : gy < wn.heap.size := by omega); (try have hggz : gz < wn.heap.size := by omega)) | (go_at_call 106; refine (scale_byP _ _ _ _).mono ?_; rintro e wn ⟨rfl, hbn⟩; obtain ⟨hcn, hfn, hzn0, hzn1, hzn2, hzn3, hzn4, hzn5, hzn6, hzn7, hzn8⟩ := bcell hbn; (try simp only [World.size_drew] at hcn hfn hzn0 hzn1 hzn2 hzn3 hzn4 hzn5 hzn6 hzn7 hzn8); have hsn := hbn.size; (try simp at hsn); (try have hq0 : w.heap.size < wn.heap.size := by omega); (try have hq1 : w.heap.size + 1 < wn.heap.size := by omega); (try have hq2 : w.heap.size + 1 + 1 < wn.heap.size := by omega); (try have hq3 : w.heap.size + 1 + 1 + 1 < wn.heap.size := by omega); (try have hq4 : w.heap.size + 1 + 1 + 1 + 1 < wn.heap.size := by omega); (try have hq5 : w.heap.size + 1 + 1 + 1 + 1 + 1 < wn.heap.size := by omega); (try have hq6 : w.heap.size + 1 + 1 + 1 + 1 + 1 + 1 < wn.heap.size := by omega); (try have hq7 : w.heap.size + 1 + 1 + 1 + 1 + 1 + 1 + 1 < wn.heap.size := by omega); (try have hggx : gx < wn.heap.size := by omega); (try have hggy : gy < wn.heap.size := by omega); (try have hggz : gz < wn.heap.size := by omega)))
      all_goals (go_wp2_with fail; go_meet; unfold NewVec; exact ⟨rfl, _, rfl, by (first | omega | (simp <;> omega)), by (first | omega | (simp <;> omega)), by (repeat (first | (with_reducible exact Below.refl _ _) | (with_reducible assumption) | (with_reducible refine Below.alloc ?_ (by first | (with_reducible exact Nat.le_refl _) | omega | (simp <;> omega)) _) | (with_reducible refine Below.setCell ?_ (by first | (with_reducible exact Nat.le_refl _) | omega | (simp <;> omega)) _) | (with_reducible refine Below.drew ?_) | (with_reducible refine bel_step (by assumption) ?_ (by first | (with_reducible exact Nat.le_refl _) | omega | (simp <;> omega))))), by (simp (maxDischargeDepth := 8) [go_sem, *]; done), by (simp (maxDischargeDepth := 8) [go_sem, *]; done), by (simp (maxDischargeDepth := 8) [go_sem, *]; done), by (simp (maxDischargeDepth := 8) [go_sem, *]; done)⟩)
    case rest =>
      obtain ⟨rfl, gx, rfl, k1, k2, hbx, a0, a1, a2, a3⟩ := hcut
      (obtain ⟨hcn, hfn, hzn0, hzn1, hzn2, hzn3, hzn4, hzn5, hzn6, hzn7, hzn8⟩ := bcell hbx; (try simp only [World.size_drew] at hcn hfn hzn0 hzn1 hzn2 hzn3 hzn4 hzn5 hzn6 hzn7 hzn8); have hsn := hbx.size; (try simp at hsn); (try have hq0 : w.heap.size < wc.heap.size := by omega); (try have hq1 : w.heap.size + 1 < wc.heap.size := by omega); (try have hq2 : w.heap.size + 1 + 1 < wc.heap.size := by omega); (try have hq3 : w.heap.size + 1 + 1 + 1 < wc.heap.size := by omega); (try have hq4 : w.heap.size + 1 + 1 + 1 + 1 < wc.heap.size := by omega); (try have hq5 : w.heap.size + 1 + 1 + 1 + 1 + 1 < wc.heap.size := by omega); (try have hq6 : w.heap.size + 1 + 1 + 1 + 1 + 1 + 1 < wc.heap.size := by omega); (try have hq7 : w.heap.size + 1 + 1 + 1 + 1 + 1 + 1 + 1 < wc.heap.size := by omega); (try have hggx : gx < wc.heap.size := by omega); (try have hggy : gy < wc.heap.size := by omega); (try have hggz : gz < wc.heap.size := by omega))
      go_wp2_with ((go_at_call 86; refine (add_byS _ _ _ _ _).mono ?_; rintro e wn ⟨rfl, hbn⟩; obtain ⟨hcn, hfn, hzn0, hzn1, hzn2, hzn3, hzn4, hzn5, hzn6, hzn7, hzn8⟩ := bcell hbn; (try simp only [World.size_drew] at hcn hfn hzn0 hzn1 hzn2 hzn3 hzn4 hzn5 hzn6 hzn7 hzn8); have hsn := hbn.size; (try simp at hsn); (try have hq0 : w.heap.size < wn.heap.size := by omega); (try have hq1 : w.heap.size + 1 < wn.heap.size := by omega); (try have hq2 : w.heap.size + 1 + 1 < wn.heap.size := by omega); (try have hq3 : w.heap.size + 1 + 1 + 1 < wn.heap.size := by omega); (try have hq4 : w.heap.size + 1 + 1 + 1 + 1 < wn.heap.size := by omega); (try have hq5 : w.heap.size + 1 + 1 + 1 + 1 + 1 < wn.heap.size := by omega); (try have hq6 : w.heap.size + 1 + 1 + 1 + 1 + 1 + 1 < wn.heap.size := by omega); (try have hq7 : w.heap.size + 1 + 1 + 1 + 1 + 1 + 1 + 1 < wn.heap.size := by omega); (try have hggx : gx < wn.heap.size := by omega); (try have hggy : gy < wn.heap.size := by omega); (try have hggz : gz < wn.heap.size := by omega)))
      · obtain ⟨e1, e2, e3⟩ := by_2 h1 ‹_›
        rw [e1, e2, e3]
        clear e1 e2 e3
        (simp (maxDischargeDepth := 8) [bodyPost, results, Tryd.results67, go_sem, *]; try (repeat (first | (with_reducible exact Below.refl _ _) | (with_reducible assumption) | (with_reducible refine Below.alloc ?_ (by first | (with_reducible exact Nat.le_refl _) | omega | (simp <;> omega)) _) | (with_reducible refine Below.setCell ?_ (by first | (with_reducible exact Nat.le_refl _) | omega | (simp <;> omega)) _) | (with_reducible refine Below.drew ?_) | (with_reducible refine bel_step (by assumption) ?_ (by first | (with_reducible exact Nat.le_refl _) | omega | (simp <;> omega))))))
      · obtain ⟨e1, e2, e3⟩ := by_3 h1 (by assumption)
        rw [e1, e2, e3]
        clear e1 e2 e3
        (simp (maxDischargeDepth := 8) [bodyPost, results, Tryd.results67, go_sem, *]; try (repeat (first | (with_reducible exact Below.refl _ _) | (with_reducible assumption) | (with_reducible refine Below.alloc ?_ (by first | (with_reducible exact Nat.le_refl _) | omega | (simp <;> omega)) _) | (with_reducible refine Below.setCell ?_ (by first | (with_reducible exact Nat.le_refl _) | omega | (simp <;> omega)) _) | (with_reducible refine Below.drew ?_) | (with_reducible refine bel_step (by assumption) ?_ (by first | (with_reducible exact Nat.le_refl _) | omega | (simp <;> omega))))))
  · obtain ⟨e1, e2, e3⟩ := by_1 h1
    rw [e1, e2, e3]
    clear e1 e2 e3
    go_enter Tryd.func67, Tryd.ntmps67
    go_wp2_with (go_at_call 106; refine (scale_byP _ _ _ _).mono ?_; rintro e wn ⟨rfl, hbn⟩; obtain ⟨hcn, hfn, hzn0, hzn1, hzn2, hzn3, hzn4, hzn5, hzn6, hzn7, hzn8⟩ := bcell hbn; (try simp only [World.size_drew] at hcn hfn hzn0 hzn1 hzn2 hzn3 hzn4 hzn5 hzn6 hzn7 hzn8); have hsn := hbn.size; (try simp at hsn); (try have hq0 : w.heap.size < wn.heap.size := by omega); (try have hq1 : w.heap.size + 1 < wn.heap.size := by omega); (try have hq2 : w.heap.size + 1 + 1 < wn.heap.size := by omega); (try have hq3 : w.heap.size + 1 + 1 + 1 < wn.heap.size := by omega); (try have hq4 : w.heap.size + 1 + 1 + 1 + 1 < wn.heap.size := by omega); (try have hq5 : w.heap.size + 1 + 1 + 1 + 1 + 1 < wn.heap.size := by omega); (try have hq6 : w.heap.size + 1 + 1 + 1 + 1 + 1 + 1 < wn.heap.size := by omega); (try have hq7 : w.heap.size + 1 + 1 + 1 + 1 + 1 + 1 + 1 < wn.heap.size := by omega); (try have hggx : gx < wn.heap.size := by omega); (try have hggy : gy < wn.heap.size := by omega); (try have hggz : gz < wn.heap.size := by omega))
    (simp (maxDischargeDepth := 8) [bodyPost, results, Tryd.results67, go_sem, *]; try (repeat (first | (with_reducible exact Below.refl _ _) | (with_reducible assumption) | (with_reducible refine Below.alloc ?_ (by first | (with_reducible exact Nat.le_refl _) | omega | (simp <;> omega)) _) | (with_reducible refine Below.setCell ?_ (by first | (with_reducible exact Nat.le_refl _) | omega | (simp <;> omega)) _) | (with_reducible refine Below.drew ?_) | (with_reducible refine bel_step (by assumption) ?_ (by first | (with_reducible exact Nat.le_refl _) | omega | (simp <;> omega))))))
end Go.Proofs.YtpbklojdmkpkcaaDoor
