import Derived.Lib.Hide
import Derived.Test.YtpbklojdmkpkcaaDoorG2
/- turn: a quarter; by one direction. -/
namespace Go.Proofs.YtpbklojdmkpkcaaDoor
open Go.RowKit
set_option linter.unusedSimpArgs false
set_option linter.unusedVariables false
instance : F 0 := ⟨by decide⟩
theorem F_val {x : Except Int Int} (h : ∀ r, x = .ok r → F r) : F (valF x) := by
  cases x with
  | ok r => exact h r rfl
  | error e => exact (inferInstance : F 0)
instance (a b : Int) : F (valF (addF a b)) := F_val fun _ h => addF_F h
instance (a b : Int) : F (valF (subF a b)) := F_val fun _ h => addF_F h
instance (a b : Int) : F (valF (mulF a b)) := F_val fun _ h => mulF_F h
instance (x y : Except Int Int) [hx : F (valF x)] : F (valX (both x y)) := by cases x <;> cases y <;> first | exact hx | exact (inferInstance : F 0)
instance (x y : Except Int Int) [hy : F (valF y)] : F (valY (both x y)) := by cases x <;> cases y <;> first | exact hy | exact (inferInstance : F 0)

set_option maxHeartbeats 1600000 in
theorem turn_quarter (x y : Int) [F x] [F y] : Gives 68 #[vec x y] (vec (-y) x) := by
  intro w
  go_enter Tryd.func68, Tryd.ntmps68
  go_wp2_with fail
  go_region_held3 (fun w' => w'.cell? ⟨w.heap.size, 0, none⟩ = some (.int .i64 (hi x)) ∧ w'.cell? ⟨w.heap.size, 1, none⟩ = some (.int .u64 (lo x)) ∧ w'.cell? ⟨w.heap.size, 2, none⟩ = some (.int .i64 (hi y)) ∧ w'.cell? ⟨w.heap.size, 3, none⟩ = some (.int .u64 (lo y)))
    (simp (maxDischargeDepth := 8) [go_sem, *]) (first | (go_at_call 107; refine (fix_Neg _ _).mono ?_; rintro e wn ⟨rfl, hbn⟩; obtain ⟨hcn, hfn, hzn0, hzn1, hzn2, hzn3, hzn4, hzn5, hzn6, hzn7, hzn8⟩ := bcell hbn; (try simp only [World.size_drew] at hcn hfn hzn0 hzn1 hzn2 hzn3 hzn4 hzn5 hzn6 hzn7 hzn8); have hsn := hbn.size; (try simp at hsn); (try have hq0 : w.heap.size < wn.heap.size := by omega); (try have hq1 : w.heap.size + 1 < wn.heap.size := by omega); (try have hq2 : w.heap.size + 1 + 1 < wn.heap.size := by omega); (try have hq3 : w.heap.size + 1 + 1 + 1 < wn.heap.size := by omega); (try have hq4 : w.heap.size + 1 + 1 + 1 + 1 < wn.heap.size := by omega); (try have hq5 : w.heap.size + 1 + 1 + 1 + 1 + 1 < wn.heap.size := by omega); (try have hq6 : w.heap.size + 1 + 1 + 1 + 1 + 1 + 1 < wn.heap.size := by omega); (try have hq7 : w.heap.size + 1 + 1 + 1 + 1 + 1 + 1 + 1 < wn.heap.size := by omega); (try have hggx : gx < wn.heap.size := by omega); (try have hggy : gy < wn.heap.size := by omega); (try have hggz : gz < wn.heap.size := by omega)))
  all_goals go_wp2_with fail
  all_goals (simp (maxDischargeDepth := 8) [bodyPost, results, Tryd.results68, go_sem, *]; try (repeat (first | (with_reducible exact Below.refl _ _) | (with_reducible assumption) | (with_reducible refine Below.alloc ?_ (by first | (with_reducible exact Nat.le_refl _) | omega | (simp <;> omega)) _) | (with_reducible refine Below.setCell ?_ (by first | (with_reducible exact Nat.le_refl _) | omega | (simp <;> omega)) _) | (with_reducible refine Below.drew ?_) | (with_reducible refine bel_step (by assumption) ?_ (by first | (with_reducible exact Nat.le_refl _) | omega | (simp <;> omega))))))

/-- What a way turned by a direction is, or the error. -/
def byP (x dx y : Int) : Except Int (Int × Int) := both (mulF x dx) (mulF y dx)
instance (x dx y : Int) : E (byP x dx y) := by unfold byP; infer_instance
instance (x dx y : Int) : F (valX (byP x dx y)) := by unfold byP; infer_instance
instance (x dx y : Int) : F (valY (byP x dx y)) := by unfold byP; infer_instance
def byS (x y dx dy : Int) : Except Int (Int × Int) := both (addF (valX (byP x dx y)) (valX (byP (-y) dy x))) (addF (valY (byP x dx y)) (valY (byP (-y) dy x)))
instance (x y dx dy : Int) : E (byS x y dx dy) := by unfold byS; infer_instance
instance (x y dx dy : Int) : F (valX (byS x y dx dy)) := by unfold byS; infer_instance
instance (x y dx dy : Int) : F (valY (byS x y dx dy)) := by unfold byS; infer_instance
def byF (x y dx dy : Int) : Except Int (Int × Int) :=
  if (errW (byP x dx y) != 0) = true then .error (errW (byP x dx y)) else if (errW (byP (-y) dy x) != 0) = true then .error (errW (byP (-y) dy x)) else byS x y dx dy
instance (x y dx dy : Int) : E (byF x y dx dy) := ⟨fun e h => by
  unfold byF at h
  split at h
  · rename_i h1; cases h; simpa using h1
  · split at h
    · rename_i h1; cases h; simpa using h1
    · exact E.h _ h⟩
def byX (x y dx dy : Int) : Int := if (errW (byP x dx y) != 0) = true then x else if (errW (byP (-y) dy x) != 0) = true then x else valX (byS x y dx dy)
def byY (x y dx dy : Int) : Int := if (errW (byP x dx y) != 0) = true then y else if (errW (byP (-y) dy x) != 0) = true then y else valY (byS x y dx dy)
instance (x y dx dy : Int) [hx : F x] : F (byX x y dx dy) := by unfold byX; split; exact hx; split; exact hx; infer_instance
instance (x y dx dy : Int) [hx : F y] : F (byY x y dx dy) := by unfold byY; split; exact hx; split; exact hx; infer_instance
theorem byX_ok {x y dx dy : Int} (h : (errW (byF x y dx dy) != 0) = false) : byF x y dx dy = .ok (byX x y dx dy, byY x y dx dy) := by
  have := EW_ok h
  unfold byF byX byY at *
  split
  · rename_i h1; rw [if_pos h1] at h; simp [errW] at h; simp at h1; exact absurd h h1
  · rename_i h1; rw [if_neg h1] at h this; 
    split
    · rename_i h2; rw [if_pos h2] at h; simp [errW] at h; simp at h2; exact absurd h h2
    · rename_i h2; rw [if_neg h2] at this; exact this
theorem by_1 {x y dx dy : Int} (h : (errW (byP x dx y) != 0) = true) : byX x y dx dy = x ∧ byY x y dx dy = y ∧ errW (byF x y dx dy) = errW (byP x dx y) := by
  unfold byX byY byF; rw [if_pos h, if_pos h, if_pos h]; exact ⟨rfl, rfl, rfl⟩
theorem by_2 {x y dx dy : Int} (h : (errW (byP x dx y) != 0) = false) (h2 : (errW (byP (-y) dy x) != 0) = true) : byX x y dx dy = x ∧ byY x y dx dy = y ∧ errW (byF x y dx dy) = errW (byP (-y) dy x) := by
  unfold byX byY byF; simp [h, h2]; simp [errW]
theorem by_3 {x y dx dy : Int} (h : (errW (byP x dx y) != 0) = false) (h2 : (errW (byP (-y) dy x) != 0) = false) : byX x y dx dy = valX (byS x y dx dy) ∧ byY x y dx dy = valY (byS x y dx dy) ∧ errW (byF x y dx dy) = errW (byS x y dx dy) := by
  unfold byX byY byF; simp [h, h2]
theorem scale_byP (x y k : Int) [F x] [F y] [F k] : Gives 106 #[vec x y, fx k] (way (byP x k y)) := vec_Scale x y k
theorem add_byS (x y dx dy : Int) : Gives 86 #[vec (valX (byP x dx y)) (valY (byP x dx y)), vec (valX (byP (-y) dy x)) (valY (byP (-y) dy x))] (way (byS x y dx dy)) := vec_Add _ _ _ _

/-- A way in a block of its own, made since W. -/
def NewVec (W : World) (x y : Int) (s : Value) (wx : World) : Prop :=
  ∃ g : Nat, s = .pointer (some ⟨g, 0, none⟩) ∧ W.heap.size ≤ g ∧ g < wx.heap.size ∧ Below W.heap.size W wx ∧
    wx.cell? ⟨g, 0, none⟩ = some (.int .i64 (hi x)) ∧ wx.cell? ⟨g, 1, none⟩ = some (.int .u64 (lo x)) ∧ wx.cell? ⟨g, 2, none⟩ = some (.int .i64 (hi y)) ∧ wx.cell? ⟨g, 3, none⟩ = some (.int .u64 (lo y))
set_option maxHeartbeats 3200000 in
theorem turn_by (x y dx dy : Int) [F x] [F y] [F dx] [F dy] : Gives 67 #[vec x y, vec dx dy] (.tuple #[vec (byX x y dx dy) (byY x y dx dy), .int .i64 (errW (byF x y dx dy))]) := by
  intro w
  cases h1 : (errW (byP x dx y) != 0)
  · go_enter Tryd.func67, Tryd.ntmps67
    go_upto_region 4 with ((go_at_call 106; refine (scale_byP _ _ _ _).mono ?_; rintro e wn ⟨rfl, hbn⟩; obtain ⟨hcn, hfn, hzn0, hzn1, hzn2, hzn3, hzn4, hzn5, hzn6, hzn7, hzn8⟩ := bcell hbn; (try simp only [World.size_drew] at hcn hfn hzn0 hzn1 hzn2 hzn3 hzn4 hzn5 hzn6 hzn7 hzn8); have hsn := hbn.size; (try simp at hsn); (try have hq0 : w.heap.size < wn.heap.size := by omega); (try have hq1 : w.heap.size + 1 < wn.heap.size := by omega); (try have hq2 : w.heap.size + 1 + 1 < wn.heap.size := by omega); (try have hq3 : w.heap.size + 1 + 1 + 1 < wn.heap.size := by omega); (try have hq4 : w.heap.size + 1 + 1 + 1 + 1 < wn.heap.size := by omega); (try have hq5 : w.heap.size + 1 + 1 + 1 + 1 + 1 < wn.heap.size := by omega); (try have hq6 : w.heap.size + 1 + 1 + 1 + 1 + 1 + 1 < wn.heap.size := by omega); (try have hq7 : w.heap.size + 1 + 1 + 1 + 1 + 1 + 1 + 1 < wn.heap.size := by omega); (try have hggx : gx < wn.heap.size := by omega); (try have hggy : gy < wn.heap.size := by omega); (try have hggz : gz < wn.heap.size := by omega)))
    go_cut [7, 8] (fun s7 s8 wx => s7 = .int .i64 (errW (byP (-y) dy x)) ∧ NewVec (wn.alloc (.cells #[.int .i64 (hi (valX (byP x dx y))), .int .u64 (lo (valX (byP x dx y))), .int .i64 (hi (valY (byP x dx y))), .int .u64 (lo (valY (byP x dx y)))] 26)) (valX (byP (-y) dy x)) (valY (byP (-y) dy x)) s8 wx)
    case first =>
      go_region_held3 (fun w' => w'.cell? ⟨w.heap.size, 0, none⟩ = some (.int .i64 (hi x)) ∧ w'.cell? ⟨w.heap.size, 1, none⟩ = some (.int .u64 (lo x)) ∧ w'.cell? ⟨w.heap.size, 2, none⟩ = some (.int .i64 (hi y)) ∧ w'.cell? ⟨w.heap.size, 3, none⟩ = some (.int .u64 (lo y)) ∧
          w'.cell? ⟨w.heap.size + 1, 2, none⟩ = some (.int .i64 (hi dy)) ∧ w'.cell? ⟨w.heap.size + 1, 3, none⟩ = some (.int .u64 (lo dy)))
        (simp (maxDischargeDepth := 8) [go_sem, *]) (first | (go_at_call 68; refine (turn_quarter _ _ _).mono ?_; rintro e wn ⟨rfl, hbn⟩; obtain ⟨hcn, hfn, hzn0, hzn1, hzn2, hzn3, hzn4, hzn5, hzn6, hzn7, hzn8⟩ := bcell hbn; (try simp only [World.size_drew] at hcn hfn hzn0 hzn1 hzn2 hzn3 hzn4 hzn5 hzn6 hzn7 hzn8); have hsn := hbn.size; (try simp at hsn); (try have hq0 : w.heap.size < wn.heap.size := by omega); (try have hq1 : w.heap.size + 1 < wn.heap.size := by omega); (try have hq2 : w.heap.size + 1 + 1 < wn.heap.size := by omega); (try have hq3 : w.heap.size + 1 + 1 + 1 < wn.heap.size := by omega); (try have hq4 : w.heap.size + 1 + 1 + 1 + 1 < wn.heap.size := by omega); (try have hq5 : w.heap.size + 1 + 1 + 1 + 1 + 1 < wn.heap.size := by omega); (try have hq6 : w.heap.size + 1 + 1 + 1 + 1 + 1 + 1 < wn.heap.size := by omega); (try have hq7 : w.heap.size + 1 + 1 + 1 + 1 + 1 + 1 + 1 < wn.heap.size := by omega); (try have hggx : gx < wn.heap.size := by omega); (try have hggy : gy < wn.heap.size := by omega); (try have hggz : gz < wn.heap.size := by omega)) | (go_at_call 106; refine (scale_byP _ _ _ _).mono ?_; rintro e wn ⟨rfl, hbn⟩; obtain ⟨hcn, hfn, hzn0, hzn1, hzn2, hzn3, hzn4, hzn5, hzn6, hzn7, hzn8⟩ := bcell hbn; (try simp only [World.size_drew] at hcn hfn hzn0 hzn1 hzn2 hzn3 hzn4 hzn5 hzn6 hzn7 hzn8); have hsn := hbn.size; (try simp at hsn); (try have hq0 : w.heap.size < wn.heap.size := by omega); (try have hq1 : w.heap.size + 1 < wn.heap.size := by omega); (try have hq2 : w.heap.size + 1 + 1 < wn.heap.size := by omega); (try have hq3 : w.heap.size + 1 + 1 + 1 < wn.heap.size := by omega); (try have hq4 : w.heap.size + 1 + 1 + 1 + 1 < wn.heap.size := by omega); (try have hq5 : w.heap.size + 1 + 1 + 1 + 1 + 1 < wn.heap.size := by omega); (try have hq6 : w.heap.size + 1 + 1 + 1 + 1 + 1 + 1 < wn.heap.size := by omega); (try have hq7 : w.heap.size + 1 + 1 + 1 + 1 + 1 + 1 + 1 < wn.heap.size := by omega); (try have hggx : gx < wn.heap.size := by omega); (try have hggy : gy < wn.heap.size := by omega); (try have hggz : gz < wn.heap.size := by omega)))
      all_goals (go_wp2_with fail; go_meet; unfold NewVec; exact ⟨rfl, _, rfl, by (first | omega | (simp <;> omega)), by (first | omega | (simp <;> omega)), by (repeat (first | (with_reducible exact Below.refl _ _) | (with_reducible assumption) | (with_reducible refine Below.alloc ?_ (by first | (with_reducible exact Nat.le_refl _) | omega | (simp <;> omega)) _) | (with_reducible refine Below.setCell ?_ (by first | (with_reducible exact Nat.le_refl _) | omega | (simp <;> omega)) _) | (with_reducible refine Below.drew ?_) | (with_reducible refine bel_step (by assumption) ?_ (by first | (with_reducible exact Nat.le_refl _) | omega | (simp <;> omega))))), by (simp (maxDischargeDepth := 8) [go_sem, *]; done), by (simp (maxDischargeDepth := 8) [go_sem, *]; done), by (simp (maxDischargeDepth := 8) [go_sem, *]; done), by (simp (maxDischargeDepth := 8) [go_sem, *]; done)⟩)
    case rest =>
      obtain ⟨rfl, gx, rfl, k1, k2, hbx, a0, a1, a2, a3⟩ := hcut
      (obtain ⟨hcn, hfn, hzn0, hzn1, hzn2, hzn3, hzn4, hzn5, hzn6, hzn7, hzn8⟩ := bcell hbx; (try simp only [World.size_drew] at hcn hfn hzn0 hzn1 hzn2 hzn3 hzn4 hzn5 hzn6 hzn7 hzn8); have hsn := hbx.size; (try simp at hsn); (try have hq0 : w.heap.size < wc.heap.size := by omega); (try have hq1 : w.heap.size + 1 < wc.heap.size := by omega); (try have hq2 : w.heap.size + 1 + 1 < wc.heap.size := by omega); (try have hq3 : w.heap.size + 1 + 1 + 1 < wc.heap.size := by omega); (try have hq4 : w.heap.size + 1 + 1 + 1 + 1 < wc.heap.size := by omega); (try have hq5 : w.heap.size + 1 + 1 + 1 + 1 + 1 < wc.heap.size := by omega); (try have hq6 : w.heap.size + 1 + 1 + 1 + 1 + 1 + 1 < wc.heap.size := by omega); (try have hq7 : w.heap.size + 1 + 1 + 1 + 1 + 1 + 1 + 1 < wc.heap.size := by omega); (try have hggx : gx < wc.heap.size := by omega); (try have hggy : gy < wc.heap.size := by omega); (try have hggz : gz < wc.heap.size := by omega))
      go_wp2_with ((go_at_call 86; refine (add_byS _ _ _ _ _).mono ?_; rintro e wn ⟨rfl, hbn⟩; obtain ⟨hcn, hfn, hzn0, hzn1, hzn2, hzn3, hzn4, hzn5, hzn6, hzn7, hzn8⟩ := bcell hbn; (try simp only [World.size_drew] at hcn hfn hzn0 hzn1 hzn2 hzn3 hzn4 hzn5 hzn6 hzn7 hzn8); have hsn := hbn.size; (try simp at hsn); (try have hq0 : w.heap.size < wn.heap.size := by omega); (try have hq1 : w.heap.size + 1 < wn.heap.size := by omega); (try have hq2 : w.heap.size + 1 + 1 < wn.heap.size := by omega); (try have hq3 : w.heap.size + 1 + 1 + 1 < wn.heap.size := by omega); (try have hq4 : w.heap.size + 1 + 1 + 1 + 1 < wn.heap.size := by omega); (try have hq5 : w.heap.size + 1 + 1 + 1 + 1 + 1 < wn.heap.size := by omega); (try have hq6 : w.heap.size + 1 + 1 + 1 + 1 + 1 + 1 < wn.heap.size := by omega); (try have hq7 : w.heap.size + 1 + 1 + 1 + 1 + 1 + 1 + 1 < wn.heap.size := by omega); (try have hggx : gx < wn.heap.size := by omega); (try have hggy : gy < wn.heap.size := by omega); (try have hggz : gz < wn.heap.size := by omega)))
      · obtain ⟨e1, e2, e3⟩ := by_2 h1 ‹_›
        rw [e1, e2, e3]
        clear e1 e2 e3
        (simp (maxDischargeDepth := 8) [bodyPost, results, Tryd.results67, go_sem, *]; try (repeat (first | (with_reducible exact Below.refl _ _) | (with_reducible assumption) | (with_reducible refine Below.alloc ?_ (by first | (with_reducible exact Nat.le_refl _) | omega | (simp <;> omega)) _) | (with_reducible refine Below.setCell ?_ (by first | (with_reducible exact Nat.le_refl _) | omega | (simp <;> omega)) _) | (with_reducible refine Below.drew ?_) | (with_reducible refine bel_step (by assumption) ?_ (by first | (with_reducible exact Nat.le_refl _) | omega | (simp <;> omega))))))
      · obtain ⟨e1, e2, e3⟩ := by_3 h1 (by assumption)
        rw [e1, e2, e3]
        clear e1 e2 e3
        (simp (maxDischargeDepth := 8) [bodyPost, results, Tryd.results67, go_sem, *]; try (repeat (first | (with_reducible exact Below.refl _ _) | (with_reducible assumption) | (with_reducible refine Below.alloc ?_ (by first | (with_reducible exact Nat.le_refl _) | omega | (simp <;> omega)) _) | (with_reducible refine Below.setCell ?_ (by first | (with_reducible exact Nat.le_refl _) | omega | (simp <;> omega)) _) | (with_reducible refine Below.drew ?_) | (with_reducible refine bel_step (by assumption) ?_ (by first | (with_reducible exact Nat.le_refl _) | omega | (simp <;> omega))))))
  · obtain ⟨e1, e2, e3⟩ := by_1 h1
    rw [e1, e2, e3]
    clear e1 e2 e3
    go_enter Tryd.func67, Tryd.ntmps67
    go_wp2_with (go_at_call 106; refine (scale_byP _ _ _ _).mono ?_; rintro e wn ⟨rfl, hbn⟩; obtain ⟨hcn, hfn, hzn0, hzn1, hzn2, hzn3, hzn4, hzn5, hzn6, hzn7, hzn8⟩ := bcell hbn; (try simp only [World.size_drew] at hcn hfn hzn0 hzn1 hzn2 hzn3 hzn4 hzn5 hzn6 hzn7 hzn8); have hsn := hbn.size; (try simp at hsn); (try have hq0 : w.heap.size < wn.heap.size := by omega); (try have hq1 : w.heap.size + 1 < wn.heap.size := by omega); (try have hq2 : w.heap.size + 1 + 1 < wn.heap.size := by omega); (try have hq3 : w.heap.size + 1 + 1 + 1 < wn.heap.size := by omega); (try have hq4 : w.heap.size + 1 + 1 + 1 + 1 < wn.heap.size := by omega); (try have hq5 : w.heap.size + 1 + 1 + 1 + 1 + 1 < wn.heap.size := by omega); (try have hq6 : w.heap.size + 1 + 1 + 1 + 1 + 1 + 1 < wn.heap.size := by omega); (try have hq7 : w.heap.size + 1 + 1 + 1 + 1 + 1 + 1 + 1 < wn.heap.size := by omega); (try have hggx : gx < wn.heap.size := by omega); (try have hggy : gy < wn.heap.size := by omega); (try have hggz : gz < wn.heap.size := by omega))
    (simp (maxDischargeDepth := 8) [bodyPost, results, Tryd.results67, go_sem, *]; try (repeat (first | (with_reducible exact Below.refl _ _) | (with_reducible assumption) | (with_reducible refine Below.alloc ?_ (by first | (with_reducible exact Nat.le_refl _) | omega | (simp <;> omega)) _) | (with_reducible refine Below.setCell ?_ (by first | (with_reducible exact Nat.le_refl _) | omega | (simp <;> omega)) _) | (with_reducible refine Below.drew ?_) | (with_reducible refine bel_step (by assumption) ?_ (by first | (with_reducible exact Nat.le_refl _) | omega | (simp <;> omega))))))
end Go.Proofs.YtpbklojdmkpkcaaDoor
/- turn: any angle. -/
namespace Go.Proofs.YtpbklojdmkpkcaaDoor
open Go.RowKit
set_option linter.unusedSimpArgs false
set_option linter.unusedVariables false
/-- The table's numbers (lower words; all upper words are nought). -/
def tabX : Nat → Int
  | 0 => 13043817825332782212 | 1 => 17042569291174129989 | 2 => 18092295058859852118 | 3 => 18357917958986607856 | 4 => 18424524162600791837 | 5 => 18441188259278644697 | 6 => 18445355067807029947
  | 7 => 18446396818965434987 | 8 => 18446657259819241109 | 9 => 18446722370224206390 | 10 => 18446738647837417334 | 11 => 18446742717241468172 | 12 => 18446743734592527637 | 13 => 18446743988930295426 | _ => 0
def tabY : Nat → Int
  | 0 => 13043817825332782212 | 1 => 7059263338087549766 | 2 => 3598781241489102190 | 3 => 1808097102496279522 | 4 => 905138830610008564 | 5 => 452705761816584075 | 6 => 226369926147403944
  | 7 => 113187093788755799 | 8 => 56593813235639861 | 9 => 28296939910536567 | 10 => 14148474116859560 | 11 => 7074237578628960 | 12 => 3537118854339415 | 13 => 1768559435302795 | _ => 0
def tabCells : Array Value := ((List.range 14).flatMap fun k => [Value.int .i64 0, Value.int .u64 (tabX k), Value.int .i64 0, Value.int .u64 (tabY k)]).toArray
/-- The world holds the table. -/
def Tab (w : World) : Prop := ∃ t fr, w.heap[0]? = some (.cells tabCells t fr)
theorem Tab.below {w w' : World} (h : Tab w) (hb : Below w.heap.size w w') : Tab w' := by
  obtain ⟨t, fr, h⟩ := h
  refine ⟨t, fr, ?_⟩
  rw [hb.block _ (Array.getElem?_eq_some_iff.1 h).1]; exact h
/-- A call that only computes, in a world that holds the table. -/
def GivesT (f : FuncId) (args : Array Value) (v : Value) : Prop :=
  ∀ w : World, Tab w → Calls Tryd.prog f args w fun e w' => e = .returned v ∧ Below w.heap.size w w'
theorem tab_lt (k : Nat) : 0 ≤ tabX k ∧ tabX k < 18446744073709551616 ∧ 0 ≤ tabY k ∧ tabY k < 18446744073709551616 := by
  match k with
  | 0 | 1 | 2 | 3 | 4 | 5 | 6 | 7 | 8 | 9 | 10 | 11 | 12 | 13 => decide
  | n + 14 => exact ⟨Int.le_refl 0, by show (0 : Int) < 18446744073709551616; decide, Int.le_refl 0, by show (0 : Int) < 18446744073709551616; decide⟩
instance (k : Nat) : F (tabX k) := ⟨by have := tab_lt k; omega⟩
instance (k : Nat) : F (tabY k) := ⟨by have := tab_lt k; omega⟩
theorem tab_vec (k : Nat) : vec (tabX k) (tabY k) = .agg #[.int .i64 0, .int .u64 (tabX k), .int .i64 0, .int .u64 (tabY k)] := by
  have := tab_lt k
  unfold vec hi lo
  rw [show tabX k / 18446744073709551616 = 0 by omega, show tabY k / 18446744073709551616 = 0 by omega, show tabX k % 18446744073709551616 = tabX k by omega, show tabY k % 18446744073709551616 = tabY k by omega]
theorem tab_index (k : Nat) (hk : k < 14) (w : World) : (Instr.index 113 (.agg tabCells) (.int .i64 (k : Int))).run Tryd.prog w = .ok (vec (tabX k) (tabY k)) w := by
  rw [tab_vec]
  rcases k with _ | _ | _ | _ | _ | _ | _ | _ | _ | _ | _ | _ | _ | _ | k
  all_goals first | (exfalso; omega) | kernel_rfl
theorem and_full (a : Int) (h : -9223372036854775808 ≤ a ∧ a ≤ 9223372036854775807) : bits .and .i64 a 65535 = a % 65536 := by
  show IntKind.i64.wrap ((BitVec.ofInt 64 a &&& BitVec.ofInt 64 65535).toNat : Int) = _
  have e : (BitVec.ofInt 64 65535).toNat = 2 ^ 16 - 1 := by decide
  rw [BitVec.toNat_and, e, Nat.and_two_pow_sub_one_eq_mod, BitVec.toNat_ofInt, IntKind.wrap_i64]
  omega

theorem and_1 (n : Int) (h : 0 ≤ n ∧ n ≤ 65535) : bits .and .i64 n 1 = n % 2 := by
  show IntKind.i64.wrap ((BitVec.ofInt 64 n &&& BitVec.ofInt 64 1).toNat : Int) = _
  have e : (BitVec.ofInt 64 1).toNat = 2 ^ 1 - 1 := by decide
  rw [BitVec.toNat_and, e, Nat.and_two_pow_sub_one_eq_mod, BitVec.toNat_ofInt, IntKind.wrap_i64]
  omega
/-- The way behind so many steps, or the error. -/
def rotL (m x y : Int) : Nat → Except Int (Int × Int)
  | 0 => .ok (x, y)
  | k + 1 => match rotL m x y k with
    | .error e => .error e
    | .ok u => if (m / 2 ^ (13 - k) % 2 == 0) = true then .ok u else byF u.1 u.2 (tabX k) (tabY k)
theorem rotL_skip {m x y : Int} {k : Nat} {u : Int × Int} (h : rotL m x y k = .ok u) (hb : (m / 2 ^ (13 - k) % 2 == 0) = true) : rotL m x y (k + 1) = .ok u := by
  simp only [rotL, h]; rw [if_pos hb]
theorem rotL_by {m x y : Int} {k : Nat} {u : Int × Int} (h : rotL m x y k = .ok u) (hb : (m / 2 ^ (13 - k) % 2 == 0) = false) : rotL m x y (k + 1) = byF u.1 u.2 (tabX k) (tabY k) := by
  simp only [rotL, h]; rw [if_neg (by rw [hb]; decide)]
theorem rotL_err {m x y e : Int} {k : Nat} (h : rotL m x y k = .error e) : ∀ n, rotL m x y (k + n) = .error e
  | 0 => h
  | n + 1 => by show rotL m x y (k + n + 1) = _; simp only [rotL, rotL_err h n]
theorem way_ok' (u : Int × Int) : way (.ok u) = .tuple #[vec u.1 u.2, .int .i64 0] := rfl
/-- So many quarters more. -/
def qt (v : Int × Int) : Nat → Int × Int
  | 0 => v
  | k + 1 => (-(qt v k).2, (qt v k).1)
theorem qt_F (v : Int × Int) (h1 : F v.1) (h2 : F v.2) : ∀ k, F (qt v k).1 ∧ F (qt v k).2
  | 0 => ⟨h1, h2⟩
  | k + 1 => by
    obtain ⟨i1, i2⟩ := qt_F v h1 h2 k
    exact ⟨by show F (-(qt v k).2); infer_instance, i1⟩
def rotM (m x y : Int) : Except Int (Int × Int) := match rotL m x y 14 with
  | .error e => .error e
  | .ok u => .ok (qt u (m / 16384).toNat)
/-- A way turned, or the error. -/
def rotF (x y a : Int) : Except Int (Int × Int) := rotM (a % 65536) x y
theorem rotM_err {m x y e : Int} {k : Nat} (hk : k ≤ 14) (h : rotL m x y k = .error e) : rotM m x y = .error e := by
  have := rotL_err h (14 - k)
  rw [show k + (14 - k) = 14 from by omega] at this
  unfold rotM; rw [this]
theorem rotM_ok {m x y : Int} {u : Int × Int} (h : rotL m x y 14 = .ok u) : rotM m x y = .ok (qt u (m / 16384).toNat) := by
  unfold rotM; rw [h]
/-- A way lies in a block, and may be written over. -/
def VecAt (w : World) (b : Nat) (x y : Int) : Prop :=
  w.cell? ⟨b, 0, none⟩ = some (.int .i64 (hi x)) ∧ w.cell? ⟨b, 1, none⟩ = some (.int .u64 (lo x)) ∧ w.cell? ⟨b, 2, none⟩ = some (.int .i64 (hi y)) ∧ w.cell? ⟨b, 3, none⟩ = some (.int .u64 (lo y)) ∧
  w.frozen? ⟨b, 0, none⟩ = false ∧ w.frozen? ⟨b, 1, none⟩ = false ∧ w.frozen? ⟨b, 2, none⟩ = false ∧ w.frozen? ⟨b, 3, none⟩ = false
def RotRel (m x y : Int) (w wr : World) (k : Nat) : Prop := ∃ ux uy : Int, rotL m x y k = .ok (ux, uy) ∧ F ux ∧ F uy ∧ w.heap.size + 1 < wr.heap.size ∧ Below w.heap.size w wr ∧ VecAt wr w.heap.size ux uy ∧ VecAt wr (w.heap.size + 1) 0 0
def RotEnd (w wr : World) (ux uy : Int) : Prop := F ux ∧ F uy ∧ w.heap.size + 1 < wr.heap.size ∧ Below w.heap.size w wr ∧ VecAt wr w.heap.size ux uy ∧ VecAt wr (w.heap.size + 1) 0 0
set_option maxRecDepth 100000 in
set_option maxHeartbeats 3200000 in
theorem turn_Rotate (x y a : Int) [hx : F x] [hy : F y] (ha : -9223372036854775808 ≤ a ∧ a ≤ 9223372036854775807) : GivesT 26 #[vec x y, .int .i64 a] (way (rotF x y a)) := by
  intro w hT
  obtain ⟨t, fr, hT⟩ := hT
  have h0 : 0 < w.heap.size := (Array.getElem?_eq_some_iff.1 hT).1
  have HT := Lib.hid hT
  clear hT
  have hm := and_full a ha
  have hm0 : 0 ≤ a % 65536 := by omega
  have hm1 : a % 65536 ≤ 65535 := by omega
  unfold rotF
  go_enter Tryd.func26, Tryd.ntmps26
  go_wp2_with (refine wpList_load_row rfl _ _ rfl 0 rfl t tabCells fr _ (((by (repeat (first | (with_reducible exact Below.refl _ _) | (with_reducible assumption) | (with_reducible refine Below.alloc ?_ (by first | (with_reducible exact Nat.le_refl _) | omega | (simp <;> omega)) _) | (with_reducible refine Below.setCell ?_ (by first | (with_reducible exact Nat.le_refl _) | omega | (simp <;> omega)) _) | (with_reducible refine Below.drew ?_) | (with_reducible refine bel_step (by assumption) ?_ (by first | (with_reducible exact Nat.le_refl _) | omega | (simp <;> omega))))) : Below w.heap.size w _).block 0 h0).trans HT.out) Tryd.underlying113 rfl (by kernel_rfl) ?_)
  clear hm
  generalize hE : a % 65536 = m at *
  have HE := Lib.hid hE
  clear hE
  go_loopw [13] (fun s wr => ∃ k : Nat, k ≤ 14 ∧ s = .int .i64 k ∧ RotRel m x y w wr k) (fun s _ => 14 - (intOf s).toNat)
  case atStart =>
    refine ⟨0, by omega, rfl, x, y, rfl, hx, hy, by (first | omega | (simp <;> omega)), by (repeat (first | (with_reducible exact Below.refl _ _) | (with_reducible assumption) | (with_reducible refine Below.alloc ?_ (by first | (with_reducible exact Nat.le_refl _) | omega | (simp <;> omega)) _) | (with_reducible refine Below.setCell ?_ (by first | (with_reducible exact Nat.le_refl _) | omega | (simp <;> omega)) _) | (with_reducible refine Below.drew ?_) | (with_reducible refine bel_step (by assumption) ?_ (by first | (with_reducible exact Nat.le_refl _) | omega | (simp <;> omega))))), ?_, ?_⟩
    · unfold VecAt; refine ⟨?_, ?_, ?_, ?_, ?_, ?_, ?_, ?_⟩ <;> (simp (maxDischargeDepth := 8) [go_sem, *]; done)
    · unfold VecAt; rw [hi_0, lo_0]; refine ⟨?_, ?_, ?_, ?_, ?_, ?_, ?_, ?_⟩ <;> (simp (maxDischargeDepth := 8) [go_sem, *]; done)
  case round =>
    obtain ⟨k, hk, rfl, ux, uy, hr, fx, fy, hz, hbx, hv, hr0⟩ := hrel
    have HR := Lib.hid hr
    have HZ := Lib.hid hr0
    clear hr
    unfold VecAt at hv hr0
    obtain ⟨v0, v1, v2, v3, v4, v5, v6, v7⟩ := hv
    obtain ⟨r0, r1, r2, r3, r4, r5, r6, r7⟩ := hr0
    have hz0 : w.heap.size < wr.heap.size := by omega
    by_cases hlt : k < 14
    · have hix := tab_index k hlt
      have hp : 0 ≤ m / 2 ^ (13 - k) ∧ m / 2 ^ (13 - k) ≤ 65535 := by
        refine ⟨Int.ediv_nonneg hm0 (Int.le_of_lt (Int.pow_pos (by decide))), ?_⟩
        exact Int.le_trans (Int.ediv_le_self _ hm0) hm1
      have h1 := and_1 _ hp
      cases hb : (m / 2 ^ (13 - k) % 2 == 0)
      · have HB := Lib.hid hb
        go_wp2_with (go_at_call 67; refine (turn_by _ _ _ _ _).mono ?_; rintro e wn ⟨rfl, hbn⟩; obtain ⟨hcn, hfn, hzn0, hzn1, hzn2, hzn3, hzn4, hzn5, hzn6, hzn7, hzn8⟩ := bcell hbn; (try simp only [World.size_drew] at hcn hfn hzn0 hzn1 hzn2 hzn3 hzn4 hzn5 hzn6 hzn7 hzn8); have hsn := hbn.size; (try simp at hsn); (try have hq0 : w.heap.size < wn.heap.size := by omega); (try have hq1 : w.heap.size + 1 < wn.heap.size := by omega); (try have hq2 : w.heap.size + 1 + 1 < wn.heap.size := by omega); (try have hq3 : w.heap.size + 1 + 1 + 1 < wn.heap.size := by omega); (try have hq4 : w.heap.size + 1 + 1 + 1 + 1 < wn.heap.size := by omega); (try have hq5 : w.heap.size + 1 + 1 + 1 + 1 + 1 < wn.heap.size := by omega); (try have hq6 : w.heap.size + 1 + 1 + 1 + 1 + 1 + 1 < wn.heap.size := by omega); (try have hq7 : w.heap.size + 1 + 1 + 1 + 1 + 1 + 1 + 1 < wn.heap.size := by omega); (try have hggx : gx < wn.heap.size := by omega); (try have hggy : gy < wn.heap.size := by omega); (try have hggz : gz < wn.heap.size := by omega))
        · rw [HE.out, rotM_err (k := k + 1) (by omega) ((rotL_by HR.out HB.out).trans (EW_err ‹_›)), way_error]
          (simp (maxDischargeDepth := 8) [bodyPost, results, Tryd.results26, go_sem, *]; try (repeat (first | (with_reducible exact Below.refl _ _) | (with_reducible assumption) | (with_reducible refine Below.alloc ?_ (by first | (with_reducible exact Nat.le_refl _) | omega | (simp <;> omega)) _) | (with_reducible refine Below.setCell ?_ (by first | (with_reducible exact Nat.le_refl _) | omega | (simp <;> omega)) _) | (with_reducible refine Below.drew ?_) | (with_reducible refine bel_step (by assumption) ?_ (by first | (with_reducible exact Nat.le_refl _) | omega | (simp <;> omega))))))
        · go_roundw
          case rel =>
            refine ⟨k + 1, by omega, by go_num, _, _, (rotL_by HR.out HB.out).trans (byX_ok (by assumption)), inferInstance, inferInstance, by (first | omega | (simp <;> omega)), by (repeat (first | (with_reducible exact Below.refl _ _) | (with_reducible assumption) | (with_reducible refine Below.alloc ?_ (by first | (with_reducible exact Nat.le_refl _) | omega | (simp <;> omega)) _) | (with_reducible refine Below.setCell ?_ (by first | (with_reducible exact Nat.le_refl _) | omega | (simp <;> omega)) _) | (with_reducible refine Below.drew ?_) | (with_reducible refine bel_step (by assumption) ?_ (by first | (with_reducible exact Nat.le_refl _) | omega | (simp <;> omega))))), ?_, ?_⟩
            · unfold VecAt; refine ⟨?_, ?_, ?_, ?_, ?_, ?_, ?_, ?_⟩ <;> (simp (maxDischargeDepth := 8) [go_sem, *]; done)
            · unfold VecAt; refine ⟨?_, ?_, ?_, ?_, ?_, ?_, ?_, ?_⟩ <;> (simp (maxDischargeDepth := 8) [go_sem, *]; done)
          case measure => simp [intOf]; omega
      · have HB := Lib.hid hb
        go_wp2_with fail
        go_roundw
        case rel =>
          refine ⟨k + 1, by omega, by go_num, _, _, rotL_skip HR.out HB.out, fx, fy, by (first | omega | (simp <;> omega)), by (repeat (first | (with_reducible exact Below.refl _ _) | (with_reducible assumption) | (with_reducible refine Below.alloc ?_ (by first | (with_reducible exact Nat.le_refl _) | omega | (simp <;> omega)) _) | (with_reducible refine Below.setCell ?_ (by first | (with_reducible exact Nat.le_refl _) | omega | (simp <;> omega)) _) | (with_reducible refine Below.drew ?_) | (with_reducible refine bel_step (by assumption) ?_ (by first | (with_reducible exact Nat.le_refl _) | omega | (simp <;> omega))))), ?_, ?_⟩
          · unfold VecAt; refine ⟨?_, ?_, ?_, ?_, ?_, ?_, ?_, ?_⟩ <;> (simp (maxDischargeDepth := 8) [go_sem, *]; done)
          · unfold VecAt; refine ⟨?_, ?_, ?_, ?_, ?_, ?_, ?_, ?_⟩ <;> (simp (maxDischargeDepth := 8) [go_sem, *]; done)
        case measure => simp [intOf]; omega
    · have hk14 : 14 ≤ k := by omega
      have HK := Lib.hid (show k = 14 by omega)
      obtain ⟨wo, rfl⟩ : ∃ wo : World, wo = wr := ⟨_, rfl⟩
      go_wp2_with fail
      go_loopw [37] (fun s wr => ∃ j : Nat, (j : Int) ≤ m / 16384 ∧ s = .int .i64 j ∧ RotEnd w wr (qt (ux, uy) j).1 (qt (ux, uy) j).2) (fun s _ => (m / 16384).toNat - (intOf s).toNat)
      case atStart =>
        refine ⟨0, by omega, rfl, fx, fy, hz, hbx, ?_, HZ.out⟩
        unfold VecAt; exact ⟨v0, v1, v2, v3, v4, v5, v6, v7⟩
      case round =>
        clear v0 v1 v2 v3 v4 v5 v6 v7 r0 r1 r2 r3 r4 r5 r6 r7 HZ hz0 hz
        obtain ⟨j, hj, rfl, gx, gy, hz, hby, hv, hr0⟩ := hrel
        have HZ := Lib.hid hr0
        unfold VecAt at hv hr0
        obtain ⟨v0, v1, v2, v3, v4, v5, v6, v7⟩ := hv
        obtain ⟨r0, r1, r2, r3, r4, r5, r6, r7⟩ := hr0
        have hz0 : w.heap.size < wr.heap.size := by omega
        by_cases hlt : (j : Int) < m / 16384
        · go_wp2_with (go_at_call 68; refine (turn_quarter _ _ _).mono ?_; rintro e wn ⟨rfl, hbn⟩; obtain ⟨hcn, hfn, hzn0, hzn1, hzn2, hzn3, hzn4, hzn5, hzn6, hzn7, hzn8⟩ := bcell hbn; (try simp only [World.size_drew] at hcn hfn hzn0 hzn1 hzn2 hzn3 hzn4 hzn5 hzn6 hzn7 hzn8); have hsn := hbn.size; (try simp at hsn); (try have hq0 : w.heap.size < wn.heap.size := by omega); (try have hq1 : w.heap.size + 1 < wn.heap.size := by omega); (try have hq2 : w.heap.size + 1 + 1 < wn.heap.size := by omega); (try have hq3 : w.heap.size + 1 + 1 + 1 < wn.heap.size := by omega); (try have hq4 : w.heap.size + 1 + 1 + 1 + 1 < wn.heap.size := by omega); (try have hq5 : w.heap.size + 1 + 1 + 1 + 1 + 1 < wn.heap.size := by omega); (try have hq6 : w.heap.size + 1 + 1 + 1 + 1 + 1 + 1 < wn.heap.size := by omega); (try have hq7 : w.heap.size + 1 + 1 + 1 + 1 + 1 + 1 + 1 < wn.heap.size := by omega); (try have hggx : gx < wn.heap.size := by omega); (try have hggy : gy < wn.heap.size := by omega); (try have hggz : gz < wn.heap.size := by omega))
          go_roundw
          case rel =>
            refine ⟨j + 1, by omega, by go_num, ?_⟩
            unfold RotEnd
            refine ⟨by show F (-(qt (ux, uy) j).2); infer_instance, gx, by (first | omega | (simp <;> omega)), by (repeat (first | (with_reducible exact Below.refl _ _) | (with_reducible assumption) | (with_reducible refine Below.alloc ?_ (by first | (with_reducible exact Nat.le_refl _) | omega | (simp <;> omega)) _) | (with_reducible refine Below.setCell ?_ (by first | (with_reducible exact Nat.le_refl _) | omega | (simp <;> omega)) _) | (with_reducible refine Below.drew ?_) | (with_reducible refine bel_step (by assumption) ?_ (by first | (with_reducible exact Nat.le_refl _) | omega | (simp <;> omega))))), ?_, ?_⟩
            · show VecAt _ _ (-(qt (ux, uy) j).2) (qt (ux, uy) j).1; unfold VecAt; refine ⟨?_, ?_, ?_, ?_, ?_, ?_, ?_, ?_⟩ <;> (simp (maxDischargeDepth := 8) [go_sem, *]; done)
            · unfold VecAt; refine ⟨?_, ?_, ?_, ?_, ?_, ?_, ?_, ?_⟩ <;> (simp (maxDischargeDepth := 8) [go_sem, *]; done)
          case measure => simp [intOf]; omega
        · have e : (m / 16384).toNat = j := by omega
          have HJ := Lib.hid e
          clear e
          go_wp2_with fail
          rw [HE.out, rotM_ok (HK.out ▸ HR.out), HJ.out, way_ok']
          (simp (maxDischargeDepth := 8) [bodyPost, results, Tryd.results26, go_sem, *]; try (repeat (first | (with_reducible exact Below.refl _ _) | (with_reducible assumption) | (with_reducible refine Below.alloc ?_ (by first | (with_reducible exact Nat.le_refl _) | omega | (simp <;> omega)) _) | (with_reducible refine Below.setCell ?_ (by first | (with_reducible exact Nat.le_refl _) | omega | (simp <;> omega)) _) | (with_reducible refine Below.drew ?_) | (with_reducible refine bel_step (by assumption) ?_ (by first | (with_reducible exact Nat.le_refl _) | omega | (simp <;> omega))))))
/-- An angle's direction. -/
def ofF (a : Int) : Except Int (Int × Int) := rotF 18446744073709551616 0 a
theorem way_zero (x : Int) : (Value.agg #[.int .i64 (hi x), .int .u64 (lo x), .int .i64 0, .int .u64 0]) = vec x 0 := by unfold vec; rw [hi_0, lo_0]
theorem turn_Rotate_0 (x a : Int) [hx : F x] (ha : -9223372036854775808 ≤ a ∧ a ≤ 9223372036854775807) : GivesT 26 #[.agg #[.int .i64 (hi x), .int .u64 (lo x), .int .i64 0, .int .u64 0], .int .i64 a] (way (rotF x 0 a)) := by
  rw [way_zero]; exact turn_Rotate x 0 a ha
instance : F 18446744073709551616 := ⟨by decide⟩
set_option maxHeartbeats 1600000 in
theorem turn_Of (a : Int) (ha : -9223372036854775808 ≤ a ∧ a ≤ 9223372036854775807) : GivesT 21 #[.int .i64 a] (vec (valX (ofF a)) (valY (ofF a))) := by
  intro w hT
  have HA := Lib.hid ha
  unfold ofF
  go_enter Tryd.func21, Tryd.ntmps21
  go_wp2_with (first | (go_at_call 64; refine (fix_Int 1 (by decide) _).mono ?_; rintro e wn ⟨rfl, hbn⟩; obtain ⟨hcn, hfn, hzn0, hzn1, hzn2, hzn3, hzn4, hzn5, hzn6, hzn7, hzn8⟩ := bcell hbn; (try simp only [World.size_drew] at hcn hfn hzn0 hzn1 hzn2 hzn3 hzn4 hzn5 hzn6 hzn7 hzn8); have hsn := hbn.size; (try simp at hsn); (try have hq0 : w.heap.size < wn.heap.size := by omega); (try have hq1 : w.heap.size + 1 < wn.heap.size := by omega); (try have hq2 : w.heap.size + 1 + 1 < wn.heap.size := by omega); (try have hq3 : w.heap.size + 1 + 1 + 1 < wn.heap.size := by omega); (try have hq4 : w.heap.size + 1 + 1 + 1 + 1 < wn.heap.size := by omega); (try have hq5 : w.heap.size + 1 + 1 + 1 + 1 + 1 < wn.heap.size := by omega); (try have hq6 : w.heap.size + 1 + 1 + 1 + 1 + 1 + 1 < wn.heap.size := by omega); (try have hq7 : w.heap.size + 1 + 1 + 1 + 1 + 1 + 1 + 1 < wn.heap.size := by omega); (try have hggx : gx < wn.heap.size := by omega); (try have hggy : gy < wn.heap.size := by omega); (try have hggz : gz < wn.heap.size := by omega)) | (go_at_call 26; refine (turn_Rotate_0 _ _ HA.out _ (Tab.below hT ?_)).mono ?_; (focus ((repeat (first | (with_reducible exact Below.refl _ _) | (with_reducible assumption) | (with_reducible refine Below.alloc ?_ (by first | (with_reducible exact Nat.le_refl _) | omega | (simp <;> omega)) _) | (with_reducible refine Below.setCell ?_ (by first | (with_reducible exact Nat.le_refl _) | omega | (simp <;> omega)) _) | (with_reducible refine Below.drew ?_) | (with_reducible refine bel_step (by assumption) ?_ (by first | (with_reducible exact Nat.le_refl _) | omega | (simp <;> omega))))))); rintro e wn ⟨rfl, hbn⟩; obtain ⟨hcn, hfn, hzn0, hzn1, hzn2, hzn3, hzn4, hzn5, hzn6, hzn7, hzn8⟩ := bcell hbn; (try simp only [World.size_drew] at hcn hfn hzn0 hzn1 hzn2 hzn3 hzn4 hzn5 hzn6 hzn7 hzn8); have hsn := hbn.size; (try simp at hsn); (try have hq0 : w.heap.size < wn.heap.size := by omega); (try have hq1 : w.heap.size + 1 < wn.heap.size := by omega); (try have hq2 : w.heap.size + 1 + 1 < wn.heap.size := by omega); (try have hq3 : w.heap.size + 1 + 1 + 1 < wn.heap.size := by omega); (try have hq4 : w.heap.size + 1 + 1 + 1 + 1 < wn.heap.size := by omega); (try have hq5 : w.heap.size + 1 + 1 + 1 + 1 + 1 < wn.heap.size := by omega); (try have hq6 : w.heap.size + 1 + 1 + 1 + 1 + 1 + 1 < wn.heap.size := by omega); (try have hq7 : w.heap.size + 1 + 1 + 1 + 1 + 1 + 1 + 1 < wn.heap.size := by omega); (try have hggx : gx < wn.heap.size := by omega); (try have hggy : gy < wn.heap.size := by omega); (try have hggz : gz < wn.heap.size := by omega)))
  (simp (maxDischargeDepth := 8) [bodyPost, results, Tryd.results21, go_sem, *]; try (repeat (first | (with_reducible exact Below.refl _ _) | (with_reducible assumption) | (with_reducible refine Below.alloc ?_ (by first | (with_reducible exact Nat.le_refl _) | omega | (simp <;> omega)) _) | (with_reducible refine Below.setCell ?_ (by first | (with_reducible exact Nat.le_refl _) | omega | (simp <;> omega)) _) | (with_reducible refine Below.drew ?_) | (with_reducible refine bel_step (by assumption) ?_ (by first | (with_reducible exact Nat.le_refl _) | omega | (simp <;> omega))))))
end Go.Proofs.YtpbklojdmkpkcaaDoor
/- Fields of structs by value: closed facts. -/
namespace Go.Proofs.YtpbklojdmkpkcaaDoor
theorem fld_Sum_0 (a0 a1 a2 : Value) (w : World) : (Instr.field 110 (.agg #[a0, a1, a2]) 0).run Tryd.prog w = .ok (.agg #[a0, a1]) w := by kernel_rfl
theorem fld_Sum_1 (a0 a1 a2 : Value) (w : World) : (Instr.field 110 (.agg #[a0, a1, a2]) 1).run Tryd.prog w = .ok (a2) w := by kernel_rfl
theorem fld_Got_0 (a0 a1 a2 : Value) (w : World) : (Instr.field 41 (.agg #[a0, a1, a2]) 0).run Tryd.prog w = .ok (.agg #[a0, a1]) w := by kernel_rfl
theorem fld_Got_1 (a0 a1 a2 : Value) (w : World) : (Instr.field 41 (.agg #[a0, a1, a2]) 1).run Tryd.prog w = .ok (a2) w := by kernel_rfl
theorem fld_Way_0 (a0 a1 a2 a3 a4 : Value) (w : World) : (Instr.field 47 (.agg #[a0, a1, a2, a3, a4]) 0).run Tryd.prog w = .ok (.agg #[a0, a1, a2, a3]) w := by kernel_rfl
theorem fld_Way_1 (a0 a1 a2 a3 a4 : Value) (w : World) : (Instr.field 47 (.agg #[a0, a1, a2, a3, a4]) 1).run Tryd.prog w = .ok (a4) w := by kernel_rfl
theorem fld_Divided_0 (a0 a1 a2 a3 a4 a5 a6 : Value) (w : World) : (Instr.field 170 (.agg #[a0, a1, a2, a3, a4, a5, a6]) 0).run Tryd.prog w = .ok (.agg #[a0, a1, a2, a3]) w := by kernel_rfl
theorem fld_Divided_1 (a0 a1 a2 a3 a4 a5 a6 : Value) (w : World) : (Instr.field 170 (.agg #[a0, a1, a2, a3, a4, a5, a6]) 1).run Tryd.prog w = .ok (.agg #[a4, a5]) w := by kernel_rfl
theorem fld_Divided_2 (a0 a1 a2 a3 a4 a5 a6 : Value) (w : World) : (Instr.field 170 (.agg #[a0, a1, a2, a3, a4, a5, a6]) 2).run Tryd.prog w = .ok (a6) w := by kernel_rfl
theorem fld_Vec_0 (a0 a1 a2 a3 : Value) (w : World) : (Instr.field 26 (.agg #[a0, a1, a2, a3]) 0).run Tryd.prog w = .ok (.agg #[a0, a1]) w := by kernel_rfl
theorem fld_Vec_1 (a0 a1 a2 a3 : Value) (w : World) : (Instr.field 26 (.agg #[a0, a1, a2, a3]) 1).run Tryd.prog w = .ok (.agg #[a2, a3]) w := by kernel_rfl
theorem fld_Fix_0 (a0 a1 : Value) (w : World) : (Instr.field 24 (.agg #[a0, a1]) 0).run Tryd.prog w = .ok (a0) w := by kernel_rfl
theorem fld_Fix_1 (a0 a1 : Value) (w : World) : (Instr.field 24 (.agg #[a0, a1]) 1).run Tryd.prog w = .ok (a1) w := by kernel_rfl
theorem fld_Two_0 (a0 a1 : Value) (w : World) : (Instr.field 56 (.agg #[a0, a1]) 0).run Tryd.prog w = .ok (a0) w := by kernel_rfl
theorem fld_Two_1 (a0 a1 : Value) (w : World) : (Instr.field 56 (.agg #[a0, a1]) 1).run Tryd.prog w = .ok (a1) w := by kernel_rfl
theorem fld_Four_0 (a0 a1 a2 a3 : Value) (w : World) : (Instr.field 120 (.agg #[a0, a1, a2, a3]) 0).run Tryd.prog w = .ok (.agg #[a0, a1]) w := by kernel_rfl
theorem fld_Four_1 (a0 a1 a2 a3 : Value) (w : World) : (Instr.field 120 (.agg #[a0, a1, a2, a3]) 1).run Tryd.prog w = .ok (.agg #[a2, a3]) w := by kernel_rfl
end Go.Proofs.YtpbklojdmkpkcaaDoor
/- The reference's small functions: differences of two words; turned about; what may be. -/
namespace Go.Proofs.YtpbklojdmkpkcaaDoor
open Go.RowKit
set_option linter.unusedSimpArgs false
set_option linter.unusedVariables false
theorem below_is (ah al bh b_l : Int) [h1 : U ah] [h2 : U al] [h3 : U bh] [h4 : U b_l] : below (val2 ah al - val2 bh b_l) = decide (ah < bh ∨ ah = bh ∧ al < b_l) := by
  have := h1.h; have := h2.h; have := h3.h; have := h4.h; unfold below val2; rw [decide_eq_decide]; omega
set_option maxHeartbeats 800000 in
theorem r1_Less (ah al bh b_l : Int) [U ah] [U al] [U bh] [U b_l] : Gives 38 #[.agg #[.int .u64 ah, .int .u64 al], .agg #[.int .u64 bh, .int .u64 b_l]] (.bool (below (val2 ah al - val2 bh b_l))) := by
  intro w
  rw [below_is]
  rcases Int.lt_trichotomy ah bh with h | rfl | h
  · rw [show decide (ah < bh ∨ ah = bh ∧ al < b_l) = true from by simp [h]]
    go_enter Tryd.func38, Tryd.ntmps38
    go_wp2_with fail
    (simp (maxDischargeDepth := 8) [bodyPost, results, Tryd.results38, go_sem, *]; try (repeat (first | (with_reducible exact Below.refl _ _) | (with_reducible assumption) | (with_reducible refine Below.alloc ?_ (by first | (with_reducible exact Nat.le_refl _) | omega | (simp <;> omega)) _) | (with_reducible refine Below.setCell ?_ (by first | (with_reducible exact Nat.le_refl _) | omega | (simp <;> omega)) _) | (with_reducible refine Below.drew ?_) | (with_reducible refine bel_step (by assumption) ?_ (by first | (with_reducible exact Nat.le_refl _) | omega | (simp <;> omega))))))
  · rw [show decide (ah < ah ∨ ah = ah ∧ al < b_l) = decide (al < b_l) from by simp]
    have h0 : ¬ ah < ah := Int.lt_irrefl _
    go_enter Tryd.func38, Tryd.ntmps38
    go_wp2_with fail
    all_goals (simp (maxDischargeDepth := 8) [bodyPost, results, Tryd.results38, go_sem, *]; try (repeat (first | (with_reducible exact Below.refl _ _) | (with_reducible assumption) | (with_reducible refine Below.alloc ?_ (by first | (with_reducible exact Nat.le_refl _) | omega | (simp <;> omega)) _) | (with_reducible refine Below.setCell ?_ (by first | (with_reducible exact Nat.le_refl _) | omega | (simp <;> omega)) _) | (with_reducible refine Below.drew ?_) | (with_reducible refine bel_step (by assumption) ?_ (by first | (with_reducible exact Nat.le_refl _) | omega | (simp <;> omega))))))
  · rw [show decide (ah < bh ∨ ah = bh ∧ al < b_l) = false from by simp; omega]
    have h0 : ¬ ah < bh := by omega
    have h1 : (ah == bh) = false := by simp; omega
    go_enter Tryd.func38, Tryd.ntmps38
    go_wp2_with fail
    all_goals (simp (maxDischargeDepth := 8) [bodyPost, results, Tryd.results38, go_sem, *]; try (repeat (first | (with_reducible exact Below.refl _ _) | (with_reducible assumption) | (with_reducible refine Below.alloc ?_ (by first | (with_reducible exact Nat.le_refl _) | omega | (simp <;> omega)) _) | (with_reducible refine Below.setCell ?_ (by first | (with_reducible exact Nat.le_refl _) | omega | (simp <;> omega)) _) | (with_reducible refine Below.drew ?_) | (with_reducible refine bel_step (by assumption) ?_ (by first | (with_reducible exact Nat.le_refl _) | omega | (simp <;> omega))))))
abbrev sumv (n : Int) (c : Bool) : Value := .agg #[.int .u64 (hi n), .int .u64 (lo n), .bool c]
theorem sub2_1 (ah al bh b_l : Int) [h1 : U ah] [h2 : U al] [h3 : U bh] [h4 : U b_l] (h : al < b_l) : IntKind.u64.wrap (IntKind.u64.wrap (ah - bh) - 1) = hi (mod2 (val2 ah al - val2 bh b_l)) := by
  have := h1.h; have := h2.h; have := h3.h; have := h4.h; rw [IntKind.wrap_u64, IntKind.wrap_u64]; unfold hi mod2 val2; omega
theorem sub2_0 (ah al bh b_l : Int) [h1 : U ah] [h2 : U al] [h3 : U bh] [h4 : U b_l] (h : ¬ al < b_l) : IntKind.u64.wrap (ah - bh) = hi (mod2 (val2 ah al - val2 bh b_l)) := by
  have := h1.h; have := h2.h; have := h3.h; have := h4.h; rw [IntKind.wrap_u64]; unfold hi mod2 val2; omega
theorem sub2_lo (ah al bh b_l : Int) : IntKind.u64.wrap (al - b_l) = lo (mod2 (val2 ah al - val2 bh b_l)) := by rw [IntKind.wrap_u64]; unfold lo mod2 val2; omega
attribute [local go_sem] wrapU fld_Sum_0 fld_Sum_1 fld_Got_0 fld_Got_1 fld_Way_0 fld_Way_1 fld_Divided_0 fld_Divided_1 fld_Divided_2 fld_Vec_0 fld_Vec_1 fld_Fix_0 fld_Fix_1 fld_Two_0 fld_Two_1 fld_Four_0 fld_Four_1
set_option maxHeartbeats 1600000 in
theorem r1_SubTwo (ah al bh b_l : Int) [U ah] [U al] [U bh] [U b_l] : Gives 65 #[.agg #[.int .u64 ah, .int .u64 al], .agg #[.int .u64 bh, .int .u64 b_l]] (sumv (mod2 (val2 ah al - val2 bh b_l)) (below (val2 ah al - val2 bh b_l))) := by
  intro w
  unfold sumv
  rw [← sub2_lo ah al bh b_l]
  by_cases h : al < b_l
  · rw [← sub2_1 ah al bh b_l h]
    go_enter Tryd.func65, Tryd.ntmps65
    go_wp2_with fail
    go_region_held3 (fun w' => w'.cell? ⟨w.heap.size, 0, none⟩ = some (.int .u64 ah) ∧ w'.cell? ⟨w.heap.size, 1, none⟩ = some (.int .u64 al) ∧ w'.cell? ⟨w.heap.size + 1, 0, none⟩ = some (.int .u64 bh) ∧ w'.cell? ⟨w.heap.size + 1, 1, none⟩ = some (.int .u64 b_l))
      (simp (maxDischargeDepth := 8) [go_sem, *]) (first | (go_at_call 38; refine (r1_Less _ _ _ _ _).mono ?_; rintro e wn ⟨rfl, hbn⟩; obtain ⟨hcn, hfn, hzn0, hzn1, hzn2, hzn3, hzn4, hzn5, hzn6, hzn7, hzn8⟩ := bcell hbn; (try simp only [World.size_drew] at hcn hfn hzn0 hzn1 hzn2 hzn3 hzn4 hzn5 hzn6 hzn7 hzn8); have hsn := hbn.size; (try simp at hsn); (try have hq0 : w.heap.size < wn.heap.size := by omega); (try have hq1 : w.heap.size + 1 < wn.heap.size := by omega); (try have hq2 : w.heap.size + 1 + 1 < wn.heap.size := by omega); (try have hq3 : w.heap.size + 1 + 1 + 1 < wn.heap.size := by omega); (try have hq4 : w.heap.size + 1 + 1 + 1 + 1 < wn.heap.size := by omega); (try have hq5 : w.heap.size + 1 + 1 + 1 + 1 + 1 < wn.heap.size := by omega); (try have hq6 : w.heap.size + 1 + 1 + 1 + 1 + 1 + 1 < wn.heap.size := by omega); (try have hq7 : w.heap.size + 1 + 1 + 1 + 1 + 1 + 1 + 1 < wn.heap.size := by omega); (try have hggx : gx < wn.heap.size := by omega); (try have hggy : gy < wn.heap.size := by omega); (try have hggz : gz < wn.heap.size := by omega)))
    all_goals go_wp2_with fail
    all_goals (simp (maxDischargeDepth := 8) [bodyPost, results, Tryd.results65, go_sem, *]; try (repeat (first | (with_reducible exact Below.refl _ _) | (with_reducible assumption) | (with_reducible refine Below.alloc ?_ (by first | (with_reducible exact Nat.le_refl _) | omega | (simp <;> omega)) _) | (with_reducible refine Below.setCell ?_ (by first | (with_reducible exact Nat.le_refl _) | omega | (simp <;> omega)) _) | (with_reducible refine Below.drew ?_) | (with_reducible refine bel_step (by assumption) ?_ (by first | (with_reducible exact Nat.le_refl _) | omega | (simp <;> omega))))))
  · rw [← sub2_0 ah al bh b_l h]
    go_enter Tryd.func65, Tryd.ntmps65
    go_wp2_with fail
    go_region_held3 (fun w' => w'.cell? ⟨w.heap.size, 0, none⟩ = some (.int .u64 ah) ∧ w'.cell? ⟨w.heap.size, 1, none⟩ = some (.int .u64 al) ∧ w'.cell? ⟨w.heap.size + 1, 0, none⟩ = some (.int .u64 bh) ∧ w'.cell? ⟨w.heap.size + 1, 1, none⟩ = some (.int .u64 b_l))
      (simp (maxDischargeDepth := 8) [go_sem, *]) (first | (go_at_call 38; refine (r1_Less _ _ _ _ _).mono ?_; rintro e wn ⟨rfl, hbn⟩; obtain ⟨hcn, hfn, hzn0, hzn1, hzn2, hzn3, hzn4, hzn5, hzn6, hzn7, hzn8⟩ := bcell hbn; (try simp only [World.size_drew] at hcn hfn hzn0 hzn1 hzn2 hzn3 hzn4 hzn5 hzn6 hzn7 hzn8); have hsn := hbn.size; (try simp at hsn); (try have hq0 : w.heap.size < wn.heap.size := by omega); (try have hq1 : w.heap.size + 1 < wn.heap.size := by omega); (try have hq2 : w.heap.size + 1 + 1 < wn.heap.size := by omega); (try have hq3 : w.heap.size + 1 + 1 + 1 < wn.heap.size := by omega); (try have hq4 : w.heap.size + 1 + 1 + 1 + 1 < wn.heap.size := by omega); (try have hq5 : w.heap.size + 1 + 1 + 1 + 1 + 1 < wn.heap.size := by omega); (try have hq6 : w.heap.size + 1 + 1 + 1 + 1 + 1 + 1 < wn.heap.size := by omega); (try have hq7 : w.heap.size + 1 + 1 + 1 + 1 + 1 + 1 + 1 < wn.heap.size := by omega); (try have hggx : gx < wn.heap.size := by omega); (try have hggy : gy < wn.heap.size := by omega); (try have hggz : gz < wn.heap.size := by omega)))
    all_goals go_wp2_with fail
    all_goals (simp (maxDischargeDepth := 8) [bodyPost, results, Tryd.results65, go_sem, *]; try (repeat (first | (with_reducible exact Below.refl _ _) | (with_reducible assumption) | (with_reducible refine Below.alloc ?_ (by first | (with_reducible exact Nat.le_refl _) | omega | (simp <;> omega)) _) | (with_reducible refine Below.setCell ?_ (by first | (with_reducible exact Nat.le_refl _) | omega | (simp <;> omega)) _) | (with_reducible refine Below.drew ?_) | (with_reducible refine bel_step (by assumption) ?_ (by first | (with_reducible exact Nat.le_refl _) | omega | (simp <;> omega))))))
theorem neg_hi (a : Int) [h : F a] : wrap64 (hi (mod2 (val2 0 0 - val2 (IntKind.u64.wrap (hi a)) (lo a)))) = hi (-a) := by
  have := h.h; rw [wrap64_is, IntKind.wrap_u64]; unfold hi mod2 val2 lo; omega
theorem neg_lo (a : Int) [h : F a] : lo (mod2 (val2 0 0 - val2 (IntKind.u64.wrap (hi a)) (lo a))) = lo (-a) := by
  have := h.h; rw [IntKind.wrap_u64]; unfold hi mod2 val2 lo; omega
set_option maxRecDepth 100000 in
set_option maxHeartbeats 1600000 in
theorem r1_Neg (a : Int) [F a] : Gives 22 #[fx a] (fx (-a)) := by
  intro w
  unfold fx
  rw [← neg_hi a, ← neg_lo a]
  go_enter Tryd.func22, Tryd.ntmps22
  go_wp2_with (go_at_call 65; refine (r1_SubTwo _ _ _ _ _).mono ?_; rintro e wn ⟨rfl, hbn⟩; obtain ⟨hcn, hfn, hzn0, hzn1, hzn2, hzn3, hzn4, hzn5, hzn6, hzn7, hzn8⟩ := bcell hbn; (try simp only [World.size_drew] at hcn hfn hzn0 hzn1 hzn2 hzn3 hzn4 hzn5 hzn6 hzn7 hzn8); have hsn := hbn.size; (try simp at hsn); (try have hq0 : w.heap.size < wn.heap.size := by omega); (try have hq1 : w.heap.size + 1 < wn.heap.size := by omega); (try have hq2 : w.heap.size + 1 + 1 < wn.heap.size := by omega); (try have hq3 : w.heap.size + 1 + 1 + 1 < wn.heap.size := by omega); (try have hq4 : w.heap.size + 1 + 1 + 1 + 1 < wn.heap.size := by omega); (try have hq5 : w.heap.size + 1 + 1 + 1 + 1 + 1 < wn.heap.size := by omega); (try have hq6 : w.heap.size + 1 + 1 + 1 + 1 + 1 + 1 < wn.heap.size := by omega); (try have hq7 : w.heap.size + 1 + 1 + 1 + 1 + 1 + 1 + 1 < wn.heap.size := by omega); (try have hggx : gx < wn.heap.size := by omega); (try have hggy : gy < wn.heap.size := by omega); (try have hggz : gz < wn.heap.size := by omega))
  (simp (maxDischargeDepth := 8) [bodyPost, results, Tryd.results22, go_sem, *]; try (repeat (first | (with_reducible exact Below.refl _ _) | (with_reducible assumption) | (with_reducible refine Below.alloc ?_ (by first | (with_reducible exact Nat.le_refl _) | omega | (simp <;> omega)) _) | (with_reducible refine Below.setCell ?_ (by first | (with_reducible exact Nat.le_refl _) | omega | (simp <;> omega)) _) | (with_reducible refine Below.drew ?_) | (with_reducible refine bel_step (by assumption) ?_ (by first | (with_reducible exact Nat.le_refl _) | omega | (simp <;> omega))))))
set_option maxRecDepth 100000 in
set_option maxHeartbeats 1600000 in
theorem r1_NegVec (x y : Int) [F x] [F y] : Gives 23 #[vec x y] (vec (-x) (-y)) := by
  intro w
  go_enter Tryd.func23, Tryd.ntmps23
  go_wp2_with fail
  go_region_held3 (fun w' => w'.cell? ⟨w.heap.size, 0, none⟩ = some (.int .i64 (hi x)) ∧ w'.cell? ⟨w.heap.size, 1, none⟩ = some (.int .u64 (lo x)) ∧ w'.cell? ⟨w.heap.size, 2, none⟩ = some (.int .i64 (hi y)) ∧ w'.cell? ⟨w.heap.size, 3, none⟩ = some (.int .u64 (lo y)))
    (simp (maxDischargeDepth := 8) [go_sem, *]) (first | (go_at_call 22; refine (r1_Neg _ _).mono ?_; rintro e wn ⟨rfl, hbn⟩; obtain ⟨hcn, hfn, hzn0, hzn1, hzn2, hzn3, hzn4, hzn5, hzn6, hzn7, hzn8⟩ := bcell hbn; (try simp only [World.size_drew] at hcn hfn hzn0 hzn1 hzn2 hzn3 hzn4 hzn5 hzn6 hzn7 hzn8); have hsn := hbn.size; (try simp at hsn); (try have hq0 : w.heap.size < wn.heap.size := by omega); (try have hq1 : w.heap.size + 1 < wn.heap.size := by omega); (try have hq2 : w.heap.size + 1 + 1 < wn.heap.size := by omega); (try have hq3 : w.heap.size + 1 + 1 + 1 < wn.heap.size := by omega); (try have hq4 : w.heap.size + 1 + 1 + 1 + 1 < wn.heap.size := by omega); (try have hq5 : w.heap.size + 1 + 1 + 1 + 1 + 1 < wn.heap.size := by omega); (try have hq6 : w.heap.size + 1 + 1 + 1 + 1 + 1 + 1 < wn.heap.size := by omega); (try have hq7 : w.heap.size + 1 + 1 + 1 + 1 + 1 + 1 + 1 < wn.heap.size := by omega); (try have hggx : gx < wn.heap.size := by omega); (try have hggy : gy < wn.heap.size := by omega); (try have hggz : gz < wn.heap.size := by omega)))
  all_goals go_wp2_with fail
  all_goals (simp (maxDischargeDepth := 8) [bodyPost, results, Tryd.results23, go_sem, *]; try (repeat (first | (with_reducible exact Below.refl _ _) | (with_reducible assumption) | (with_reducible refine Below.alloc ?_ (by first | (with_reducible exact Nat.le_refl _) | omega | (simp <;> omega)) _) | (with_reducible refine Below.setCell ?_ (by first | (with_reducible exact Nat.le_refl _) | omega | (simp <;> omega)) _) | (with_reducible refine Below.drew ?_) | (with_reducible refine bel_step (by assumption) ?_ (by first | (with_reducible exact Nat.le_refl _) | omega | (simp <;> omega))))))
/-- Whether a number of two's complement may be. -/
def mayF (h l : Int) : Bool := h != -9223372036854775808 || l != 0
set_option maxHeartbeats 800000 in
theorem r1_May (h l : Int) : Gives 66 #[.agg #[.int .i64 h, .int .u64 l]] (.bool (mayF h l)) := by
  intro w
  unfold mayF
  cases h1 : (h != -9223372036854775808)
  · go_enter Tryd.func66, Tryd.ntmps66
    go_wp2_with fail
    (simp (maxDischargeDepth := 8) [bodyPost, results, Tryd.results66, go_sem, *]; try (repeat (first | (with_reducible exact Below.refl _ _) | (with_reducible assumption) | (with_reducible refine Below.alloc ?_ (by first | (with_reducible exact Nat.le_refl _) | omega | (simp <;> omega)) _) | (with_reducible refine Below.setCell ?_ (by first | (with_reducible exact Nat.le_refl _) | omega | (simp <;> omega)) _) | (with_reducible refine Below.drew ?_) | (with_reducible refine bel_step (by assumption) ?_ (by first | (with_reducible exact Nat.le_refl _) | omega | (simp <;> omega))))))
  · go_enter Tryd.func66, Tryd.ntmps66
    go_wp2_with fail
    (simp (maxDischargeDepth := 8) [bodyPost, results, Tryd.results66, go_sem, *]; try (repeat (first | (with_reducible exact Below.refl _ _) | (with_reducible assumption) | (with_reducible refine Below.alloc ?_ (by first | (with_reducible exact Nat.le_refl _) | omega | (simp <;> omega)) _) | (with_reducible refine Below.setCell ?_ (by first | (with_reducible exact Nat.le_refl _) | omega | (simp <;> omega)) _) | (with_reducible refine Below.drew ?_) | (with_reducible refine bel_step (by assumption) ?_ (by first | (with_reducible exact Nat.le_refl _) | omega | (simp <;> omega))))))
set_option maxHeartbeats 800000 in
theorem r1_MayVec (a b c d : Int) : Gives 24 #[.agg #[.int .i64 a, .int .u64 b, .int .i64 c, .int .u64 d]] (.bool (mayF a b && mayF c d)) := by
  intro w
  cases h1 : mayF a b
  · go_enter Tryd.func24, Tryd.ntmps24
    go_wp2_with (go_at_call 66; refine (r1_May _ _ _).mono ?_; rintro e wn ⟨rfl, hbn⟩; obtain ⟨hcn, hfn, hzn0, hzn1, hzn2, hzn3, hzn4, hzn5, hzn6, hzn7, hzn8⟩ := bcell hbn; (try simp only [World.size_drew] at hcn hfn hzn0 hzn1 hzn2 hzn3 hzn4 hzn5 hzn6 hzn7 hzn8); have hsn := hbn.size; (try simp at hsn); (try have hq0 : w.heap.size < wn.heap.size := by omega); (try have hq1 : w.heap.size + 1 < wn.heap.size := by omega); (try have hq2 : w.heap.size + 1 + 1 < wn.heap.size := by omega); (try have hq3 : w.heap.size + 1 + 1 + 1 < wn.heap.size := by omega); (try have hq4 : w.heap.size + 1 + 1 + 1 + 1 < wn.heap.size := by omega); (try have hq5 : w.heap.size + 1 + 1 + 1 + 1 + 1 < wn.heap.size := by omega); (try have hq6 : w.heap.size + 1 + 1 + 1 + 1 + 1 + 1 < wn.heap.size := by omega); (try have hq7 : w.heap.size + 1 + 1 + 1 + 1 + 1 + 1 + 1 < wn.heap.size := by omega); (try have hggx : gx < wn.heap.size := by omega); (try have hggy : gy < wn.heap.size := by omega); (try have hggz : gz < wn.heap.size := by omega))
    (simp (maxDischargeDepth := 8) [bodyPost, results, Tryd.results24, go_sem, *]; try (repeat (first | (with_reducible exact Below.refl _ _) | (with_reducible assumption) | (with_reducible refine Below.alloc ?_ (by first | (with_reducible exact Nat.le_refl _) | omega | (simp <;> omega)) _) | (with_reducible refine Below.setCell ?_ (by first | (with_reducible exact Nat.le_refl _) | omega | (simp <;> omega)) _) | (with_reducible refine Below.drew ?_) | (with_reducible refine bel_step (by assumption) ?_ (by first | (with_reducible exact Nat.le_refl _) | omega | (simp <;> omega))))))
  · go_enter Tryd.func24, Tryd.ntmps24
    go_wp2_with (go_at_call 66; refine (r1_May _ _ _).mono ?_; rintro e wn ⟨rfl, hbn⟩; obtain ⟨hcn, hfn, hzn0, hzn1, hzn2, hzn3, hzn4, hzn5, hzn6, hzn7, hzn8⟩ := bcell hbn; (try simp only [World.size_drew] at hcn hfn hzn0 hzn1 hzn2 hzn3 hzn4 hzn5 hzn6 hzn7 hzn8); have hsn := hbn.size; (try simp at hsn); (try have hq0 : w.heap.size < wn.heap.size := by omega); (try have hq1 : w.heap.size + 1 < wn.heap.size := by omega); (try have hq2 : w.heap.size + 1 + 1 < wn.heap.size := by omega); (try have hq3 : w.heap.size + 1 + 1 + 1 < wn.heap.size := by omega); (try have hq4 : w.heap.size + 1 + 1 + 1 + 1 < wn.heap.size := by omega); (try have hq5 : w.heap.size + 1 + 1 + 1 + 1 + 1 < wn.heap.size := by omega); (try have hq6 : w.heap.size + 1 + 1 + 1 + 1 + 1 + 1 < wn.heap.size := by omega); (try have hq7 : w.heap.size + 1 + 1 + 1 + 1 + 1 + 1 + 1 < wn.heap.size := by omega); (try have hggx : gx < wn.heap.size := by omega); (try have hggy : gy < wn.heap.size := by omega); (try have hggz : gz < wn.heap.size := by omega))
    (simp (maxDischargeDepth := 8) [bodyPost, results, Tryd.results24, go_sem, *]; try (repeat (first | (with_reducible exact Below.refl _ _) | (with_reducible assumption) | (with_reducible refine Below.alloc ?_ (by first | (with_reducible exact Nat.le_refl _) | omega | (simp <;> omega)) _) | (with_reducible refine Below.setCell ?_ (by first | (with_reducible exact Nat.le_refl _) | omega | (simp <;> omega)) _) | (with_reducible refine Below.drew ?_) | (with_reducible refine bel_step (by assumption) ?_ (by first | (with_reducible exact Nat.le_refl _) | omega | (simp <;> omega))))))
set_option maxHeartbeats 800000 in
theorem r1_Int (n : Int) (h : -9223372036854775807 ≤ n ∧ n ≤ 9223372036854775807) : Gives 28 #[.int .i64 n] (fx (n * 18446744073709551616)) := by
  intro w
  have e1 : hi (n * 18446744073709551616) = n := by unfold hi; omega
  have e2 : lo (n * 18446744073709551616) = 0 := by unfold lo; omega
  unfold fx
  rw [e1, e2]
  clear e1 e2
  go_enter Tryd.func28, Tryd.ntmps28
  go_wp2
  rw [show max n (-9223372036854775807) = n from by omega]
  (simp (maxDischargeDepth := 8) [bodyPost, results, Tryd.results28, go_sem, *]; try (repeat (first | (with_reducible exact Below.refl _ _) | (with_reducible assumption) | (with_reducible refine Below.alloc ?_ (by first | (with_reducible exact Nat.le_refl _) | omega | (simp <;> omega)) _) | (with_reducible refine Below.setCell ?_ (by first | (with_reducible exact Nat.le_refl _) | omega | (simp <;> omega)) _) | (with_reducible refine Below.drew ?_) | (with_reducible refine bel_step (by assumption) ?_ (by first | (with_reducible exact Nat.le_refl _) | omega | (simp <;> omega))))))
set_option maxHeartbeats 800000 in
theorem l1_Num (n : Int) : Gives 27 #[.int .i64 n] (.int .i64 n) := by
  intro w
  go_enter Tryd.func27, Tryd.ntmps27
  go_wp2
  (simp (maxDischargeDepth := 8) [bodyPost, results, Tryd.results27, go_sem, *]; try (repeat (first | (with_reducible exact Below.refl _ _) | (with_reducible assumption) | (with_reducible refine Below.alloc ?_ (by first | (with_reducible exact Nat.le_refl _) | omega | (simp <;> omega)) _) | (with_reducible refine Below.setCell ?_ (by first | (with_reducible exact Nat.le_refl _) | omega | (simp <;> omega)) _) | (with_reducible refine Below.drew ?_) | (with_reducible refine bel_step (by assumption) ?_ (by first | (with_reducible exact Nat.le_refl _) | omega | (simp <;> omega))))))
end Go.Proofs.YtpbklojdmkpkcaaDoor
/- What quarters do: plain arithmetic of the turning function. -/
namespace Go.Proofs.YtpbklojdmkpkcaaDoor
theorem rotL_low {m m' x y : Int} (h : m % 16384 = m' % 16384) : ∀ k, k ≤ 14 → rotL m x y k = rotL m' x y k
  | 0, _ => rfl
  | k + 1, hk => by
    have ih := rotL_low (x := x) (y := y) h k (by omega)
    have e : m / 2 ^ (13 - k) % 2 = m' / 2 ^ (13 - k) % 2 := by
      obtain ⟨j, hj, hj2⟩ : ∃ j, 13 - k = j ∧ j ≤ 13 := ⟨13 - k, rfl, by omega⟩
      rw [hj]
      rcases j with _ | _ | _ | _ | _ | _ | _ | _ | _ | _ | _ | _ | _ | _ | j
      all_goals first | (exfalso; omega) | (simp only [Nat.reduceAdd, Nat.zero_add, Int.reducePow]; omega)
    simp only [rotL, ih, e]
/-- The way behind the low bits. -/
def lowF (x y a : Int) : Except Int (Int × Int) := rotL (a % 65536) x y 14
theorem lowF_add (x y a c : Int) : lowF x y (a + 16384 * c) = lowF x y a := rotL_low (by omega) 14 (by omega)
def turns (r : Except Int (Int × Int)) (q : Nat) : Except Int (Int × Int) := match r with
  | .error e => .error e
  | .ok u => .ok (qt u q)
theorem rotF_is (x y a : Int) : rotF x y a = turns (lowF x y a) (a % 65536 / 16384).toNat := by unfold rotF rotM turns lowF; rfl
theorem qt_4 (u : Int × Int) : qt u 4 = u := by simp [qt]
theorem turns_1 (r : Except Int (Int × Int)) (q : Nat) : valX (turns r (q + 1)) = -(valY (turns r q)) ∧ valY (turns r (q + 1)) = valX (turns r q) ∧ errW (turns r (q + 1)) = errW (turns r q) := by
  cases r with
  | error e => exact ⟨rfl, rfl, rfl⟩
  | ok u => exact ⟨rfl, rfl, rfl⟩
theorem turns_4 (r : Except Int (Int × Int)) : turns r 4 = turns r 0 := by
  cases r with
  | error e => rfl
  | ok u => show Except.ok (qt u 4) = _; rw [qt_4]; rfl
theorem rotF_1 (x y a : Int) : valX (rotF x y (a + 16384)) = -(valY (rotF x y a)) ∧ valY (rotF x y (a + 16384)) = valX (rotF x y a) ∧ errW (rotF x y (a + 16384)) = errW (rotF x y a) := by
  rw [rotF_is, rotF_is, show a + 16384 = a + 16384 * 1 from by omega, lowF_add]
  have h := turns_1 (lowF x y a) (a % 65536 / 16384).toNat
  rcases Int.lt_or_le (a % 65536) 49152 with hq | hq
  · rw [show ((a + 16384 * 1) % 65536 / 16384).toNat = (a % 65536 / 16384).toNat + 1 from by omega]; exact h
  · have e : (a % 65536 / 16384).toNat = 3 := by omega
    rw [show ((a + 16384 * 1) % 65536 / 16384).toNat = 0 from by omega, ← turns_4]
    rw [e] at h ⊢
    exact h
theorem rotF_2 (x y a : Int) : valX (rotF x y (a + 32768)) = -(valX (rotF x y a)) ∧ valY (rotF x y (a + 32768)) = -(valY (rotF x y a)) ∧ errW (rotF x y (a + 32768)) = errW (rotF x y a) := by
  have h1 := rotF_1 x y a
  have h2 := rotF_1 x y (a + 16384)
  rw [show a + 16384 + 16384 = a + 32768 from by omega] at h2
  rw [h2.1, h2.2.1, h2.2.2, h1.1, h1.2.1, h1.2.2]
  exact ⟨rfl, rfl, rfl⟩
theorem rotF_4 (x y a : Int) : rotF x y (a + 65536) = rotF x y a := by unfold rotF; rw [show (a + 65536) % 65536 = a % 65536 from by omega]
theorem rotF_4' (x y a : Int) : rotF x y (a - 65536) = rotF x y a := by unfold rotF; rw [show (a - 65536) % 65536 = a % 65536 from by omega]
theorem rotF_0 (x y : Int) : rotF x y 0 = .ok (x, y) := by
  have e : ∀ k, k ≤ 14 → rotL 0 x y k = .ok (x, y) := by
    intro k
    induction k with
    | zero => intro _; rfl
    | succ k ih => intro hk; simp [rotL, ih (by omega)]
  unfold rotF rotM
  rw [show (0 : Int) % 65536 = 0 from rfl, e 14 (by omega)]; rfl
end Go.Proofs.YtpbklojdmkpkcaaDoor
/- The reference: sums of two words; how much a number is; of a sign and how much; products of words. -/
namespace Go.Proofs.YtpbklojdmkpkcaaDoor
open Go.RowKit
set_option linter.unusedSimpArgs false
set_option linter.unusedVariables false
attribute [local go_sem] wrapU fld_Sum_0 fld_Sum_1 fld_Got_0 fld_Got_1
theorem bcellM {W w1 : World} (hb : Below W.heap.size W w1) : ∃ M, M = W.heap.size ∧ (∀ b o, b < M → w1.cell? ⟨b, o, none⟩ = W.cell? ⟨b, o, none⟩) ∧ (∀ b o, b < M → w1.frozen? ⟨b, o, none⟩ = W.frozen? ⟨b, o, none⟩) :=
  ⟨_, rfl, (bcell hb).1, (bcell hb).2.1⟩
theorem add2_lo (ah al bh b_l : Int) : IntKind.u64.wrap (al + b_l) = lo (mod2 (val2 ah al + val2 bh b_l)) := by rw [IntKind.wrap_u64]; unfold lo mod2 val2; omega
theorem add2_1 (ah al bh b_l : Int) [h1 : U ah] [h2 : U al] [h3 : U bh] [h4 : U b_l] (h : IntKind.u64.wrap (al + b_l) < al) :
    hi (mod2 (val2 ah al + val2 bh b_l)) = IntKind.u64.wrap (IntKind.u64.wrap (ah + bh) + 1) ∧ over2 (val2 ah al + val2 bh b_l) = (decide (IntKind.u64.wrap (ah + bh) < ah) || IntKind.u64.wrap (IntKind.u64.wrap (ah + bh) + 1) == 0) := by
  have := h1.h; have := h2.h; have := h3.h; have := h4.h
  simp only [IntKind.wrap_u64] at *
  constructor
  · unfold hi mod2 val2; omega
  · unfold over2 val2; rw [Bool.eq_iff_iff]; simp; omega
theorem add2_0 (ah al bh b_l : Int) [h1 : U ah] [h2 : U al] [h3 : U bh] [h4 : U b_l] (h : ¬ IntKind.u64.wrap (al + b_l) < al) :
    hi (mod2 (val2 ah al + val2 bh b_l)) = IntKind.u64.wrap (ah + bh) ∧ over2 (val2 ah al + val2 bh b_l) = decide (IntKind.u64.wrap (ah + bh) < ah) := by
  have := h1.h; have := h2.h; have := h3.h; have := h4.h
  simp only [IntKind.wrap_u64] at *
  constructor
  · unfold hi mod2 val2; omega
  · unfold over2 val2; rw [Bool.eq_iff_iff]; simp; omega
set_option maxRecDepth 100000 in
set_option maxHeartbeats 1600000 in
theorem r1_AddTwo (ah al bh b_l : Int) [U ah] [U al] [U bh] [U b_l] : Gives 75 #[.agg #[.int .u64 ah, .int .u64 al], .agg #[.int .u64 bh, .int .u64 b_l]] (sumv (mod2 (val2 ah al + val2 bh b_l)) (over2 (val2 ah al + val2 bh b_l))) := by
  intro w
  unfold sumv
  rw [← add2_lo ah al bh b_l]
  by_cases h : IntKind.u64.wrap (al + b_l) < al
  · rw [(add2_1 ah al bh b_l h).1, (add2_1 ah al bh b_l h).2]
    by_cases h2 : IntKind.u64.wrap (ah + bh) < ah
    · go_enter Tryd.func75, Tryd.ntmps75
      go_wp2_with fail
      all_goals (simp (maxDischargeDepth := 8) [bodyPost, results, Tryd.results75, go_sem, *]; try (repeat (first | (with_reducible exact Below.refl _ _) | (with_reducible assumption) | (with_reducible refine Below.alloc ?_ (by first | (with_reducible exact Nat.le_refl _) | omega | (simp <;> omega)) _) | (with_reducible refine Below.setCell ?_ (by first | (with_reducible exact Nat.le_refl _) | omega | (simp <;> omega)) _) | (with_reducible refine Below.drew ?_) | (with_reducible refine bel_step (by assumption) ?_ (by first | (with_reducible exact Nat.le_refl _) | omega | (simp <;> omega))))))
    · go_enter Tryd.func75, Tryd.ntmps75
      go_wp2_with fail
      all_goals (simp (maxDischargeDepth := 8) [bodyPost, results, Tryd.results75, go_sem, *]; try (repeat (first | (with_reducible exact Below.refl _ _) | (with_reducible assumption) | (with_reducible refine Below.alloc ?_ (by first | (with_reducible exact Nat.le_refl _) | omega | (simp <;> omega)) _) | (with_reducible refine Below.setCell ?_ (by first | (with_reducible exact Nat.le_refl _) | omega | (simp <;> omega)) _) | (with_reducible refine Below.drew ?_) | (with_reducible refine bel_step (by assumption) ?_ (by first | (with_reducible exact Nat.le_refl _) | omega | (simp <;> omega))))))
      exact ⟨fun hh => absurd hh (by omega), by (repeat (first | (with_reducible exact Below.refl _ _) | (with_reducible assumption) | (with_reducible refine Below.alloc ?_ (by first | (with_reducible exact Nat.le_refl _) | omega | (simp <;> omega)) _) | (with_reducible refine Below.setCell ?_ (by first | (with_reducible exact Nat.le_refl _) | omega | (simp <;> omega)) _) | (with_reducible refine Below.drew ?_) | (with_reducible refine bel_step (by assumption) ?_ (by first | (with_reducible exact Nat.le_refl _) | omega | (simp <;> omega)))))⟩
  · rw [(add2_0 ah al bh b_l h).1, (add2_0 ah al bh b_l h).2]
    by_cases h2 : IntKind.u64.wrap (ah + bh) < ah
    · go_enter Tryd.func75, Tryd.ntmps75
      go_wp2_with fail
      all_goals (simp (maxDischargeDepth := 8) [bodyPost, results, Tryd.results75, go_sem, *]; try (repeat (first | (with_reducible exact Below.refl _ _) | (with_reducible assumption) | (with_reducible refine Below.alloc ?_ (by first | (with_reducible exact Nat.le_refl _) | omega | (simp <;> omega)) _) | (with_reducible refine Below.setCell ?_ (by first | (with_reducible exact Nat.le_refl _) | omega | (simp <;> omega)) _) | (with_reducible refine Below.drew ?_) | (with_reducible refine bel_step (by assumption) ?_ (by first | (with_reducible exact Nat.le_refl _) | omega | (simp <;> omega))))))
    · go_enter Tryd.func75, Tryd.ntmps75
      go_wp2_with fail
      all_goals (simp (maxDischargeDepth := 8) [bodyPost, results, Tryd.results75, go_sem, *]; try (repeat (first | (with_reducible exact Below.refl _ _) | (with_reducible assumption) | (with_reducible refine Below.alloc ?_ (by first | (with_reducible exact Nat.le_refl _) | omega | (simp <;> omega)) _) | (with_reducible refine Below.setCell ?_ (by first | (with_reducible exact Nat.le_refl _) | omega | (simp <;> omega)) _) | (with_reducible refine Below.drew ?_) | (with_reducible refine bel_step (by assumption) ?_ (by first | (with_reducible exact Nat.le_refl _) | omega | (simp <;> omega))))))
theorem hi_neg (a : Int) : hi a < 0 ↔ a < 0 := by unfold hi; omega
theorem mag_of_neg {a : Int} (h : a < 0) : mag a = -a := if_pos h
theorem mag_of_pos {a : Int} (h : ¬ a < 0) : mag a = a := if_neg h
set_option maxRecDepth 100000 in
set_option maxHeartbeats 1600000 in
theorem r1_Mag (a : Int) [hF : F a] : Gives 39 #[fx a] (two (mag a)) := by
  intro w
  have hf := hF.h
  by_cases h : a < 0
  · have h1 := (hi_neg a).2 h
    rw [mag_of_neg h]
    haveI : T (-a) := ⟨by omega⟩
    clear h hf
    go_enter Tryd.func39, Tryd.ntmps39
    go_wp2_with (go_at_call 22; refine (r1_Neg _ _).mono ?_; rintro e wn ⟨rfl, hbn⟩; obtain ⟨hcn, hfn, hzn0, hzn1, hzn2, hzn3, hzn4, hzn5, hzn6, hzn7, hzn8⟩ := bcell hbn; (try simp only [World.size_drew] at hcn hfn hzn0 hzn1 hzn2 hzn3 hzn4 hzn5 hzn6 hzn7 hzn8); have hsn := hbn.size; (try simp at hsn); (try have hq0 : w.heap.size < wn.heap.size := by omega); (try have hq1 : w.heap.size + 1 < wn.heap.size := by omega); (try have hq2 : w.heap.size + 1 + 1 < wn.heap.size := by omega); (try have hq3 : w.heap.size + 1 + 1 + 1 < wn.heap.size := by omega); (try have hq4 : w.heap.size + 1 + 1 + 1 + 1 < wn.heap.size := by omega); (try have hq5 : w.heap.size + 1 + 1 + 1 + 1 + 1 < wn.heap.size := by omega); (try have hq6 : w.heap.size + 1 + 1 + 1 + 1 + 1 + 1 < wn.heap.size := by omega); (try have hq7 : w.heap.size + 1 + 1 + 1 + 1 + 1 + 1 + 1 < wn.heap.size := by omega); (try have hggx : gx < wn.heap.size := by omega); (try have hggy : gy < wn.heap.size := by omega); (try have hggz : gz < wn.heap.size := by omega); obtain ⟨M, hM, hcM, hfM⟩ := bcellM hbn; (try simp at hM); (try have hl0 : w.heap.size < M := by omega); (try have hcx0 := fun o => hcM (w.heap.size) o hl0); (try have hfx0 := fun o => hfM (w.heap.size) o hl0); (try clear hl0); (try have hl1 : w.heap.size + 1 < M := by omega); (try have hcx1 := fun o => hcM (w.heap.size + 1) o hl1); (try have hfx1 := fun o => hfM (w.heap.size + 1) o hl1); (try clear hl1); (try have hl2 : w.heap.size + 1 + 1 < M := by omega); (try have hcx2 := fun o => hcM (w.heap.size + 1 + 1) o hl2); (try have hfx2 := fun o => hfM (w.heap.size + 1 + 1) o hl2); (try clear hl2); (try have hl3 : w.heap.size + 1 + 1 + 1 < M := by omega); (try have hcx3 := fun o => hcM (w.heap.size + 1 + 1 + 1) o hl3); (try have hfx3 := fun o => hfM (w.heap.size + 1 + 1 + 1) o hl3); (try clear hl3); (try have hl4 : w.heap.size + 1 + 1 + 1 + 1 < M := by omega); (try have hcx4 := fun o => hcM (w.heap.size + 1 + 1 + 1 + 1) o hl4); (try have hfx4 := fun o => hfM (w.heap.size + 1 + 1 + 1 + 1) o hl4); (try clear hl4); (try have hl5 : w.heap.size + 1 + 1 + 1 + 1 + 1 < M := by omega); (try have hcx5 := fun o => hcM (w.heap.size + 1 + 1 + 1 + 1 + 1) o hl5); (try have hfx5 := fun o => hfM (w.heap.size + 1 + 1 + 1 + 1 + 1) o hl5); (try clear hl5); clear hcM hfM hM M)
    all_goals (simp (maxDischargeDepth := 8) [bodyPost, results, Tryd.results39, go_sem, *]; try (repeat (first | (with_reducible exact Below.refl _ _) | (with_reducible assumption) | (with_reducible refine Below.alloc ?_ (by first | (with_reducible exact Nat.le_refl _) | omega | (simp <;> omega)) _) | (with_reducible refine Below.setCell ?_ (by first | (with_reducible exact Nat.le_refl _) | omega | (simp <;> omega)) _) | (with_reducible refine Below.drew ?_) | (with_reducible refine bel_step (by assumption) ?_ (by first | (with_reducible exact Nat.le_refl _) | omega | (simp <;> omega))))))
  · have h1 : ¬ hi a < 0 := fun hh => h ((hi_neg a).1 hh)
    rw [mag_of_pos h]
    haveI : T a := ⟨by omega⟩
    clear h hf
    go_enter Tryd.func39, Tryd.ntmps39
    go_wp2_with (go_at_call 22; refine (r1_Neg _ _).mono ?_; rintro e wn ⟨rfl, hbn⟩; obtain ⟨hcn, hfn, hzn0, hzn1, hzn2, hzn3, hzn4, hzn5, hzn6, hzn7, hzn8⟩ := bcell hbn; (try simp only [World.size_drew] at hcn hfn hzn0 hzn1 hzn2 hzn3 hzn4 hzn5 hzn6 hzn7 hzn8); have hsn := hbn.size; (try simp at hsn); (try have hq0 : w.heap.size < wn.heap.size := by omega); (try have hq1 : w.heap.size + 1 < wn.heap.size := by omega); (try have hq2 : w.heap.size + 1 + 1 < wn.heap.size := by omega); (try have hq3 : w.heap.size + 1 + 1 + 1 < wn.heap.size := by omega); (try have hq4 : w.heap.size + 1 + 1 + 1 + 1 < wn.heap.size := by omega); (try have hq5 : w.heap.size + 1 + 1 + 1 + 1 + 1 < wn.heap.size := by omega); (try have hq6 : w.heap.size + 1 + 1 + 1 + 1 + 1 + 1 < wn.heap.size := by omega); (try have hq7 : w.heap.size + 1 + 1 + 1 + 1 + 1 + 1 + 1 < wn.heap.size := by omega); (try have hggx : gx < wn.heap.size := by omega); (try have hggy : gy < wn.heap.size := by omega); (try have hggz : gz < wn.heap.size := by omega); obtain ⟨M, hM, hcM, hfM⟩ := bcellM hbn; (try simp at hM); (try have hl0 : w.heap.size < M := by omega); (try have hcx0 := fun o => hcM (w.heap.size) o hl0); (try have hfx0 := fun o => hfM (w.heap.size) o hl0); (try clear hl0); (try have hl1 : w.heap.size + 1 < M := by omega); (try have hcx1 := fun o => hcM (w.heap.size + 1) o hl1); (try have hfx1 := fun o => hfM (w.heap.size + 1) o hl1); (try clear hl1); (try have hl2 : w.heap.size + 1 + 1 < M := by omega); (try have hcx2 := fun o => hcM (w.heap.size + 1 + 1) o hl2); (try have hfx2 := fun o => hfM (w.heap.size + 1 + 1) o hl2); (try clear hl2); (try have hl3 : w.heap.size + 1 + 1 + 1 < M := by omega); (try have hcx3 := fun o => hcM (w.heap.size + 1 + 1 + 1) o hl3); (try have hfx3 := fun o => hfM (w.heap.size + 1 + 1 + 1) o hl3); (try clear hl3); (try have hl4 : w.heap.size + 1 + 1 + 1 + 1 < M := by omega); (try have hcx4 := fun o => hcM (w.heap.size + 1 + 1 + 1 + 1) o hl4); (try have hfx4 := fun o => hfM (w.heap.size + 1 + 1 + 1 + 1) o hl4); (try clear hl4); (try have hl5 : w.heap.size + 1 + 1 + 1 + 1 + 1 < M := by omega); (try have hcx5 := fun o => hcM (w.heap.size + 1 + 1 + 1 + 1 + 1) o hl5); (try have hfx5 := fun o => hfM (w.heap.size + 1 + 1 + 1 + 1 + 1) o hl5); (try clear hl5); clear hcM hfM hM M)
    all_goals (simp (maxDischargeDepth := 8) [bodyPost, results, Tryd.results39, go_sem, *]; try (repeat (first | (with_reducible exact Below.refl _ _) | (with_reducible assumption) | (with_reducible refine Below.alloc ?_ (by first | (with_reducible exact Nat.le_refl _) | omega | (simp <;> omega)) _) | (with_reducible refine Below.setCell ?_ (by first | (with_reducible exact Nat.le_refl _) | omega | (simp <;> omega)) _) | (with_reducible refine Below.drew ?_) | (with_reducible refine bel_step (by assumption) ?_ (by first | (with_reducible exact Nat.le_refl _) | omega | (simp <;> omega))))))
abbrev got (x : Except Int Int) : Value := .agg #[.int .i64 (hi (valF x)), .int .u64 (lo (valF x)), .int .i64 (errF x)]
theorem tell_small (a b c d : Int) (s : Bool) [ha : U a] [hb : U b] [hc : U c] [hd : U d] (h1 : (a != 0 || b != 0) = false) (h2 : c < 9223372036854775808) :
    tell (val4 a b c d) s = .ok (bif s then -(val2 c d) else val2 c d) ∧ F (val2 c d) := by
  have := hc.h; have := hd.h
  simp at h1
  obtain ⟨rfl, rfl⟩ := h1
  rw [val4_0]
  unfold tell
  rw [if_neg (by unfold val2; omega)]
  exact ⟨rfl, ⟨by unfold val2; omega⟩⟩
theorem tell_great (a b c d : Int) (s : Bool) [ha : U a] [hb : U b] [hc : U c] [hd : U d] (h : (a != 0 || b != 0) = true ∨ 9223372036854775808 ≤ c) : tell (val4 a b c d) s = .error 3 := by
  have := ha.h; have := hb.h; have := hc.h; have := hd.h
  simp at h
  unfold tell
  rw [if_pos (by unfold val4 val2; omega)]
theorem got_ok (r : Int) : got (.ok r) = .agg #[.int .i64 (hi r), .int .u64 (lo r), .int .i64 0] := rfl
theorem got_error (e : Int) : got (.error e) = .agg #[.int .i64 0, .int .u64 0, .int .i64 e] := by unfold got; simp only [valF, errF]; rw [hi_0, lo_0]
theorem wrap64_hi (x : Int) [h : F x] : wrap64 (hi x) = hi x := by have := h.h; rw [wrap64_is]; unfold hi; omega
theorem hi_small (x : Int) [h : F x] [h2 : T x] : hi x < 9223372036854775808 := by have := h.h; unfold hi; omega
set_option maxRecDepth 100000 in
set_option maxHeartbeats 1600000 in
theorem signed_ok (x : Int) (s : Bool) [F x] [T x] : Gives 76 #[.bool s, .agg #[.int .u64 0, .int .u64 0, .int .u64 (hi x), .int .u64 (lo x)]] (got (.ok (bif s then -x else x))) := by
  intro w
  rw [got_ok]
  have h1 := hi_small x
  have h2 := wrap64_hi x
  cases s
  · simp only [cond_false]
    go_enter Tryd.func76, Tryd.ntmps76
    go_wp2_with (go_at_call 22; refine (r1_Neg _ _).mono ?_; rintro e wn ⟨rfl, hbn⟩; obtain ⟨hcn, hfn, hzn0, hzn1, hzn2, hzn3, hzn4, hzn5, hzn6, hzn7, hzn8⟩ := bcell hbn; (try simp only [World.size_drew] at hcn hfn hzn0 hzn1 hzn2 hzn3 hzn4 hzn5 hzn6 hzn7 hzn8); have hsn := hbn.size; (try simp at hsn); (try have hq0 : w.heap.size < wn.heap.size := by omega); (try have hq1 : w.heap.size + 1 < wn.heap.size := by omega); (try have hq2 : w.heap.size + 1 + 1 < wn.heap.size := by omega); (try have hq3 : w.heap.size + 1 + 1 + 1 < wn.heap.size := by omega); (try have hq4 : w.heap.size + 1 + 1 + 1 + 1 < wn.heap.size := by omega); (try have hq5 : w.heap.size + 1 + 1 + 1 + 1 + 1 < wn.heap.size := by omega); (try have hq6 : w.heap.size + 1 + 1 + 1 + 1 + 1 + 1 < wn.heap.size := by omega); (try have hq7 : w.heap.size + 1 + 1 + 1 + 1 + 1 + 1 + 1 < wn.heap.size := by omega); (try have hggx : gx < wn.heap.size := by omega); (try have hggy : gy < wn.heap.size := by omega); (try have hggz : gz < wn.heap.size := by omega); obtain ⟨M, hM, hcM, hfM⟩ := bcellM hbn; (try simp at hM); (try have hl0 : w.heap.size < M := by omega); (try have hcx0 := fun o => hcM (w.heap.size) o hl0); (try have hfx0 := fun o => hfM (w.heap.size) o hl0); (try clear hl0); (try have hl1 : w.heap.size + 1 < M := by omega); (try have hcx1 := fun o => hcM (w.heap.size + 1) o hl1); (try have hfx1 := fun o => hfM (w.heap.size + 1) o hl1); (try clear hl1); (try have hl2 : w.heap.size + 1 + 1 < M := by omega); (try have hcx2 := fun o => hcM (w.heap.size + 1 + 1) o hl2); (try have hfx2 := fun o => hfM (w.heap.size + 1 + 1) o hl2); (try clear hl2); (try have hl3 : w.heap.size + 1 + 1 + 1 < M := by omega); (try have hcx3 := fun o => hcM (w.heap.size + 1 + 1 + 1) o hl3); (try have hfx3 := fun o => hfM (w.heap.size + 1 + 1 + 1) o hl3); (try clear hl3); (try have hl4 : w.heap.size + 1 + 1 + 1 + 1 < M := by omega); (try have hcx4 := fun o => hcM (w.heap.size + 1 + 1 + 1 + 1) o hl4); (try have hfx4 := fun o => hfM (w.heap.size + 1 + 1 + 1 + 1) o hl4); (try clear hl4); (try have hl5 : w.heap.size + 1 + 1 + 1 + 1 + 1 < M := by omega); (try have hcx5 := fun o => hcM (w.heap.size + 1 + 1 + 1 + 1 + 1) o hl5); (try have hfx5 := fun o => hfM (w.heap.size + 1 + 1 + 1 + 1 + 1) o hl5); (try clear hl5); clear hcM hfM hM M)
    all_goals (simp (maxDischargeDepth := 8) [bodyPost, results, Tryd.results76, go_sem, *]; try (repeat (first | (with_reducible exact Below.refl _ _) | (with_reducible assumption) | (with_reducible refine Below.alloc ?_ (by first | (with_reducible exact Nat.le_refl _) | omega | (simp <;> omega)) _) | (with_reducible refine Below.setCell ?_ (by first | (with_reducible exact Nat.le_refl _) | omega | (simp <;> omega)) _) | (with_reducible refine Below.drew ?_) | (with_reducible refine bel_step (by assumption) ?_ (by first | (with_reducible exact Nat.le_refl _) | omega | (simp <;> omega))))))
  · simp only [cond_true]
    go_enter Tryd.func76, Tryd.ntmps76
    go_wp2_with (go_at_call 22; refine (r1_Neg _ _).mono ?_; rintro e wn ⟨rfl, hbn⟩; obtain ⟨hcn, hfn, hzn0, hzn1, hzn2, hzn3, hzn4, hzn5, hzn6, hzn7, hzn8⟩ := bcell hbn; (try simp only [World.size_drew] at hcn hfn hzn0 hzn1 hzn2 hzn3 hzn4 hzn5 hzn6 hzn7 hzn8); have hsn := hbn.size; (try simp at hsn); (try have hq0 : w.heap.size < wn.heap.size := by omega); (try have hq1 : w.heap.size + 1 < wn.heap.size := by omega); (try have hq2 : w.heap.size + 1 + 1 < wn.heap.size := by omega); (try have hq3 : w.heap.size + 1 + 1 + 1 < wn.heap.size := by omega); (try have hq4 : w.heap.size + 1 + 1 + 1 + 1 < wn.heap.size := by omega); (try have hq5 : w.heap.size + 1 + 1 + 1 + 1 + 1 < wn.heap.size := by omega); (try have hq6 : w.heap.size + 1 + 1 + 1 + 1 + 1 + 1 < wn.heap.size := by omega); (try have hq7 : w.heap.size + 1 + 1 + 1 + 1 + 1 + 1 + 1 < wn.heap.size := by omega); (try have hggx : gx < wn.heap.size := by omega); (try have hggy : gy < wn.heap.size := by omega); (try have hggz : gz < wn.heap.size := by omega); obtain ⟨M, hM, hcM, hfM⟩ := bcellM hbn; (try simp at hM); (try have hl0 : w.heap.size < M := by omega); (try have hcx0 := fun o => hcM (w.heap.size) o hl0); (try have hfx0 := fun o => hfM (w.heap.size) o hl0); (try clear hl0); (try have hl1 : w.heap.size + 1 < M := by omega); (try have hcx1 := fun o => hcM (w.heap.size + 1) o hl1); (try have hfx1 := fun o => hfM (w.heap.size + 1) o hl1); (try clear hl1); (try have hl2 : w.heap.size + 1 + 1 < M := by omega); (try have hcx2 := fun o => hcM (w.heap.size + 1 + 1) o hl2); (try have hfx2 := fun o => hfM (w.heap.size + 1 + 1) o hl2); (try clear hl2); (try have hl3 : w.heap.size + 1 + 1 + 1 < M := by omega); (try have hcx3 := fun o => hcM (w.heap.size + 1 + 1 + 1) o hl3); (try have hfx3 := fun o => hfM (w.heap.size + 1 + 1 + 1) o hl3); (try clear hl3); (try have hl4 : w.heap.size + 1 + 1 + 1 + 1 < M := by omega); (try have hcx4 := fun o => hcM (w.heap.size + 1 + 1 + 1 + 1) o hl4); (try have hfx4 := fun o => hfM (w.heap.size + 1 + 1 + 1 + 1) o hl4); (try clear hl4); (try have hl5 : w.heap.size + 1 + 1 + 1 + 1 + 1 < M := by omega); (try have hcx5 := fun o => hcM (w.heap.size + 1 + 1 + 1 + 1 + 1) o hl5); (try have hfx5 := fun o => hfM (w.heap.size + 1 + 1 + 1 + 1 + 1) o hl5); (try clear hl5); clear hcM hfM hM M)
    all_goals (simp (maxDischargeDepth := 8) [bodyPost, results, Tryd.results76, go_sem, *]; try (repeat (first | (with_reducible exact Below.refl _ _) | (with_reducible assumption) | (with_reducible refine Below.alloc ?_ (by first | (with_reducible exact Nat.le_refl _) | omega | (simp <;> omega)) _) | (with_reducible refine Below.setCell ?_ (by first | (with_reducible exact Nat.le_refl _) | omega | (simp <;> omega)) _) | (with_reducible refine Below.drew ?_) | (with_reducible refine bel_step (by assumption) ?_ (by first | (with_reducible exact Nat.le_refl _) | omega | (simp <;> omega))))))
set_option maxRecDepth 100000 in
set_option maxHeartbeats 1600000 in
theorem signed_great (c d : Int) (s : Bool) [U c] [U d] (h : 9223372036854775808 ≤ c) : Gives 76 #[.bool s, .agg #[.int .u64 0, .int .u64 0, .int .u64 c, .int .u64 d]] (.agg #[.int .i64 0, .int .u64 0, .int .i64 3]) := by
  intro w
  go_enter Tryd.func76, Tryd.ntmps76
  go_wp2_with (go_at_call 22; refine (r1_Neg _ _).mono ?_; rintro e wn ⟨rfl, hbn⟩; obtain ⟨hcn, hfn, hzn0, hzn1, hzn2, hzn3, hzn4, hzn5, hzn6, hzn7, hzn8⟩ := bcell hbn; (try simp only [World.size_drew] at hcn hfn hzn0 hzn1 hzn2 hzn3 hzn4 hzn5 hzn6 hzn7 hzn8); have hsn := hbn.size; (try simp at hsn); (try have hq0 : w.heap.size < wn.heap.size := by omega); (try have hq1 : w.heap.size + 1 < wn.heap.size := by omega); (try have hq2 : w.heap.size + 1 + 1 < wn.heap.size := by omega); (try have hq3 : w.heap.size + 1 + 1 + 1 < wn.heap.size := by omega); (try have hq4 : w.heap.size + 1 + 1 + 1 + 1 < wn.heap.size := by omega); (try have hq5 : w.heap.size + 1 + 1 + 1 + 1 + 1 < wn.heap.size := by omega); (try have hq6 : w.heap.size + 1 + 1 + 1 + 1 + 1 + 1 < wn.heap.size := by omega); (try have hq7 : w.heap.size + 1 + 1 + 1 + 1 + 1 + 1 + 1 < wn.heap.size := by omega); (try have hggx : gx < wn.heap.size := by omega); (try have hggy : gy < wn.heap.size := by omega); (try have hggz : gz < wn.heap.size := by omega); obtain ⟨M, hM, hcM, hfM⟩ := bcellM hbn; (try simp at hM); (try have hl0 : w.heap.size < M := by omega); (try have hcx0 := fun o => hcM (w.heap.size) o hl0); (try have hfx0 := fun o => hfM (w.heap.size) o hl0); (try clear hl0); (try have hl1 : w.heap.size + 1 < M := by omega); (try have hcx1 := fun o => hcM (w.heap.size + 1) o hl1); (try have hfx1 := fun o => hfM (w.heap.size + 1) o hl1); (try clear hl1); (try have hl2 : w.heap.size + 1 + 1 < M := by omega); (try have hcx2 := fun o => hcM (w.heap.size + 1 + 1) o hl2); (try have hfx2 := fun o => hfM (w.heap.size + 1 + 1) o hl2); (try clear hl2); (try have hl3 : w.heap.size + 1 + 1 + 1 < M := by omega); (try have hcx3 := fun o => hcM (w.heap.size + 1 + 1 + 1) o hl3); (try have hfx3 := fun o => hfM (w.heap.size + 1 + 1 + 1) o hl3); (try clear hl3); (try have hl4 : w.heap.size + 1 + 1 + 1 + 1 < M := by omega); (try have hcx4 := fun o => hcM (w.heap.size + 1 + 1 + 1 + 1) o hl4); (try have hfx4 := fun o => hfM (w.heap.size + 1 + 1 + 1 + 1) o hl4); (try clear hl4); (try have hl5 : w.heap.size + 1 + 1 + 1 + 1 + 1 < M := by omega); (try have hcx5 := fun o => hcM (w.heap.size + 1 + 1 + 1 + 1 + 1) o hl5); (try have hfx5 := fun o => hfM (w.heap.size + 1 + 1 + 1 + 1 + 1) o hl5); (try clear hl5); clear hcM hfM hM M)
  all_goals (simp (maxDischargeDepth := 8) [bodyPost, results, Tryd.results76, go_sem, *]; try (repeat (first | (with_reducible exact Below.refl _ _) | (with_reducible assumption) | (with_reducible refine Below.alloc ?_ (by first | (with_reducible exact Nat.le_refl _) | omega | (simp <;> omega)) _) | (with_reducible refine Below.setCell ?_ (by first | (with_reducible exact Nat.le_refl _) | omega | (simp <;> omega)) _) | (with_reducible refine Below.drew ?_) | (with_reducible refine bel_step (by assumption) ?_ (by first | (with_reducible exact Nat.le_refl _) | omega | (simp <;> omega))))))
set_option maxRecDepth 100000 in
set_option maxHeartbeats 1600000 in
theorem signed_high (a b c d : Int) (s : Bool) (h : ¬ a = 0) : Gives 76 #[.bool s, .agg #[.int .u64 a, .int .u64 b, .int .u64 c, .int .u64 d]] (.agg #[.int .i64 0, .int .u64 0, .int .i64 3]) := by
  intro w
  go_enter Tryd.func76, Tryd.ntmps76
  go_wp2_with fail
  all_goals (simp (maxDischargeDepth := 8) [bodyPost, results, Tryd.results76, go_sem, *]; try (repeat (first | (with_reducible exact Below.refl _ _) | (with_reducible assumption) | (with_reducible refine Below.alloc ?_ (by first | (with_reducible exact Nat.le_refl _) | omega | (simp <;> omega)) _) | (with_reducible refine Below.setCell ?_ (by first | (with_reducible exact Nat.le_refl _) | omega | (simp <;> omega)) _) | (with_reducible refine Below.drew ?_) | (with_reducible refine bel_step (by assumption) ?_ (by first | (with_reducible exact Nat.le_refl _) | omega | (simp <;> omega))))))
set_option maxRecDepth 100000 in
set_option maxHeartbeats 1600000 in
theorem signed_low (b c d : Int) (s : Bool) (h : ¬ b = 0) : Gives 76 #[.bool s, .agg #[.int .u64 0, .int .u64 b, .int .u64 c, .int .u64 d]] (.agg #[.int .i64 0, .int .u64 0, .int .i64 3]) := by
  intro w
  go_enter Tryd.func76, Tryd.ntmps76
  go_wp2_with fail
  all_goals (simp (maxDischargeDepth := 8) [bodyPost, results, Tryd.results76, go_sem, *]; try (repeat (first | (with_reducible exact Below.refl _ _) | (with_reducible assumption) | (with_reducible refine Below.alloc ?_ (by first | (with_reducible exact Nat.le_refl _) | omega | (simp <;> omega)) _) | (with_reducible refine Below.setCell ?_ (by first | (with_reducible exact Nat.le_refl _) | omega | (simp <;> omega)) _) | (with_reducible refine Below.drew ?_) | (with_reducible refine bel_step (by assumption) ?_ (by first | (with_reducible exact Nat.le_refl _) | omega | (simp <;> omega))))))
theorem r1_signed (a b c d : Int) (s : Bool) [ha : U a] [hb : U b] [hc : U c] [hd : U d] : Gives 76 #[.bool s, .agg #[.int .u64 a, .int .u64 b, .int .u64 c, .int .u64 d]] (got (tell (val4 a b c d) s)) := by
  by_cases h1 : a = 0
  · subst h1
    by_cases h2 : b = 0
    · subst h2
      by_cases h3 : 9223372036854775808 ≤ c
      · rw [tell_great 0 0 c d s (.inr h3), got_error]; exact signed_great c d s h3
      · obtain ⟨e, hF⟩ := tell_small 0 0 c d s (by decide) (by omega)
        rw [e]
        have := signed_ok (val2 c d) s
        rwa [hi_val2, lo_val2] at this
    · rw [tell_great 0 b c d s (.inl (by simpa using h2)), got_error]; exact signed_low b c d s h2
  · rw [tell_great a b c d s (.inl (by simp [h1])), got_error]; exact signed_high a b c d s h1
end Go.Proofs.YtpbklojdmkpkcaaDoor
/- The reference: sums and differences. -/
namespace Go.Proofs.YtpbklojdmkpkcaaDoor
open Go.RowKit
set_option linter.unusedSimpArgs false
set_option linter.unusedVariables false
attribute [local go_sem] wrapU fld_Sum_0 fld_Sum_1 fld_Got_0 fld_Got_1
/-- Two numbers of two words in blocks of their own, made since W. -/
def Mags (a b : Int) (W : World) (s5 s6 : Value) (wx : World) : Prop :=
  ∃ gx gy : Nat, s5 = .pointer (some ⟨gx, 0, none⟩) ∧ s6 = .pointer (some ⟨gy, 0, none⟩) ∧ W.heap.size ≤ gx ∧ W.heap.size ≤ gy ∧ gx < wx.heap.size ∧ gy < wx.heap.size ∧ Below W.heap.size W wx ∧
    wx.cell? ⟨gx, 0, none⟩ = some (.int .u64 (hi (mag a))) ∧ wx.cell? ⟨gx, 1, none⟩ = some (.int .u64 (lo (mag a))) ∧
    wx.cell? ⟨gy, 0, none⟩ = some (.int .u64 (hi (mag b))) ∧ wx.cell? ⟨gy, 1, none⟩ = some (.int .u64 (lo (mag b)))
theorem neg_hi_is (a : Int) : decide (hi a < 0) = neg a := by unfold neg; rw [decide_eq_decide]; exact hi_neg a
theorem add_less' (a b : Int) [ha : F a] [hb : F b] (h : (neg a == neg b) = false) (hl : below (val2 (hi (mag a)) (lo (mag a)) - val2 (hi (mag b)) (lo (mag b))) = true) :
    tell (val4 0 0 (hi (mod2 (val2 (hi (mag b)) (lo (mag b)) - val2 (hi (mag a)) (lo (mag a))))) (lo (mod2 (val2 (hi (mag b)) (lo (mag b)) - val2 (hi (mag a)) (lo (mag a)))))) (neg b) = addF a b := by
  have := ha.h; have := hb.h
  rw [val4_0, val2_hi_lo, val2_hi_lo, val2_hi_lo] at *
  unfold neg at *
  have hl := of_decide_eq_true hl
  unfold addF tell mag mod2 at *
  by_cases h1 : a < 0 <;> by_cases h2 : b < 0 <;> simp [h1, h2] at h hl ⊢
  · rw [if_neg (by omega), if_pos (by omega)]; congr 1; omega
  · rw [if_neg (by omega), if_pos (by omega)]; congr 1; omega
theorem add_more' (a b : Int) [ha : F a] [hb : F b] (h : (neg a == neg b) = false) (hl : below (val2 (hi (mag a)) (lo (mag a)) - val2 (hi (mag b)) (lo (mag b))) = false) :
    tell (val4 0 0 (hi (mod2 (val2 (hi (mag a)) (lo (mag a)) - val2 (hi (mag b)) (lo (mag b))))) (lo (mod2 (val2 (hi (mag a)) (lo (mag a)) - val2 (hi (mag b)) (lo (mag b)))))) (neg a) = addF a b := by
  have := ha.h; have := hb.h
  rw [val4_0, val2_hi_lo, val2_hi_lo, val2_hi_lo] at *
  unfold neg at *
  have hl := of_decide_eq_false hl
  unfold addF tell mag mod2 at *
  by_cases h1 : a < 0 <;> by_cases h2 : b < 0 <;> simp [h1, h2] at h hl ⊢
  · rw [if_neg (by omega), if_pos (by omega)]; congr 1; omega
  · rw [if_neg (by omega), if_pos (by omega)]; congr 1; omega
set_option maxRecDepth 100000 in
set_option maxHeartbeats 3200000 in
theorem r1_Add (a b : Int) [F a] [F b] : Gives 41 #[fx a, fx b] (got (addF a b)) := by
  intro w
  have n1 := neg_hi_is a
  have n2 := neg_hi_is b
  go_enter Tryd.func41, Tryd.ntmps41
  go_upto_region 1 with fail
  go_cut [5, 6] (fun s5 s6 wx => Mags a b (((w.alloc (.cells #[.int .i64 (hi a), .int .u64 (lo a)] 24)).alloc (.cells #[.int .i64 (hi b), .int .u64 (lo b)] 24)).alloc (.cells #[.int .i64 0, .int .u64 0, .int .i64 0] 41)) s5 s6 wx)
  case first =>
    go_region_held3 (fun w' => w'.cell? ⟨w.heap.size, 0, none⟩ = some (.int .i64 (hi a)) ∧ w'.cell? ⟨w.heap.size, 1, none⟩ = some (.int .u64 (lo a)) ∧ w'.cell? ⟨w.heap.size + 1, 0, none⟩ = some (.int .i64 (hi b)) ∧ w'.cell? ⟨w.heap.size + 1, 1, none⟩ = some (.int .u64 (lo b))) (simp (maxDischargeDepth := 8) [go_sem, *])
      (first | (go_at_call 39; refine (r1_Mag _ _).mono ?_; rintro e wn ⟨rfl, hbn⟩; obtain ⟨hcn, hfn, hzn0, hzn1, hzn2, hzn3, hzn4, hzn5, hzn6, hzn7, hzn8⟩ := bcell hbn; (try simp only [World.size_drew] at hcn hfn hzn0 hzn1 hzn2 hzn3 hzn4 hzn5 hzn6 hzn7 hzn8); have hsn := hbn.size; (try simp at hsn); (try have hq0 : w.heap.size < wn.heap.size := by omega); (try have hq1 : w.heap.size + 1 < wn.heap.size := by omega); (try have hq2 : w.heap.size + 1 + 1 < wn.heap.size := by omega); (try have hq3 : w.heap.size + 1 + 1 + 1 < wn.heap.size := by omega); (try have hq4 : w.heap.size + 1 + 1 + 1 + 1 < wn.heap.size := by omega); (try have hq5 : w.heap.size + 1 + 1 + 1 + 1 + 1 < wn.heap.size := by omega); (try have hq6 : w.heap.size + 1 + 1 + 1 + 1 + 1 + 1 < wn.heap.size := by omega); (try have hq7 : w.heap.size + 1 + 1 + 1 + 1 + 1 + 1 + 1 < wn.heap.size := by omega); (try have hggx : gx < wn.heap.size := by omega); (try have hggy : gy < wn.heap.size := by omega); (try have hggz : gz < wn.heap.size := by omega); obtain ⟨M, hM, hcM, hfM⟩ := bcellM hbn; (try simp at hM); (try have hl0 : w.heap.size < M := by omega); (try have hcx0 := fun o => hcM (w.heap.size) o hl0); (try have hfx0 := fun o => hfM (w.heap.size) o hl0); (try clear hl0); (try have hl1 : w.heap.size + 1 < M := by omega); (try have hcx1 := fun o => hcM (w.heap.size + 1) o hl1); (try have hfx1 := fun o => hfM (w.heap.size + 1) o hl1); (try clear hl1); (try have hl2 : w.heap.size + 1 + 1 < M := by omega); (try have hcx2 := fun o => hcM (w.heap.size + 1 + 1) o hl2); (try have hfx2 := fun o => hfM (w.heap.size + 1 + 1) o hl2); (try clear hl2); (try have hl3 : w.heap.size + 1 + 1 + 1 < M := by omega); (try have hcx3 := fun o => hcM (w.heap.size + 1 + 1 + 1) o hl3); (try have hfx3 := fun o => hfM (w.heap.size + 1 + 1 + 1) o hl3); (try clear hl3); (try have hl4 : w.heap.size + 1 + 1 + 1 + 1 < M := by omega); (try have hcx4 := fun o => hcM (w.heap.size + 1 + 1 + 1 + 1) o hl4); (try have hfx4 := fun o => hfM (w.heap.size + 1 + 1 + 1 + 1) o hl4); (try clear hl4); (try have hl5 : w.heap.size + 1 + 1 + 1 + 1 + 1 < M := by omega); (try have hcx5 := fun o => hcM (w.heap.size + 1 + 1 + 1 + 1 + 1) o hl5); (try have hfx5 := fun o => hfM (w.heap.size + 1 + 1 + 1 + 1 + 1) o hl5); (try clear hl5); clear hcM hfM hM M))
    all_goals (go_wp2_with fail; go_meet; unfold Mags; exact ⟨_, _, rfl, rfl, by (first | omega | (simp <;> omega)), by (first | omega | (simp <;> omega)), by (first | omega | (simp <;> omega)), by (first | omega | (simp <;> omega)), by (repeat (first | (with_reducible exact Below.refl _ _) | (with_reducible assumption) | (with_reducible refine Below.alloc ?_ (by first | (with_reducible exact Nat.le_refl _) | omega | (simp <;> omega)) _) | (with_reducible refine Below.setCell ?_ (by first | (with_reducible exact Nat.le_refl _) | omega | (simp <;> omega)) _) | (with_reducible refine Below.drew ?_) | (with_reducible refine bel_step (by assumption) ?_ (by first | (with_reducible exact Nat.le_refl _) | omega | (simp <;> omega))))), by (simp (maxDischargeDepth := 8) [go_sem, *]; done), by (simp (maxDischargeDepth := 8) [go_sem, *]; done), by (simp (maxDischargeDepth := 8) [go_sem, *]; done), by (simp (maxDischargeDepth := 8) [go_sem, *]; done)⟩)
  case rest =>
    obtain ⟨gx, gy, rfl, rfl, k1, k2, k3, k4, hbx, a0, a1, b0, b1⟩ := hcut
    simp only [World.size_alloc] at k1 k2
    (obtain ⟨hcn, hfn, hzn0, hzn1, hzn2, hzn3, hzn4, hzn5, hzn6, hzn7, hzn8⟩ := bcell hbx; (try simp only [World.size_drew] at hcn hfn hzn0 hzn1 hzn2 hzn3 hzn4 hzn5 hzn6 hzn7 hzn8); have hsn := hbx.size; (try simp at hsn); (try have hq0 : w.heap.size < wc.heap.size := by omega); (try have hq1 : w.heap.size + 1 < wc.heap.size := by omega); (try have hq2 : w.heap.size + 1 + 1 < wc.heap.size := by omega); (try have hq3 : w.heap.size + 1 + 1 + 1 < wc.heap.size := by omega); (try have hq4 : w.heap.size + 1 + 1 + 1 + 1 < wc.heap.size := by omega); (try have hq5 : w.heap.size + 1 + 1 + 1 + 1 + 1 < wc.heap.size := by omega); (try have hq6 : w.heap.size + 1 + 1 + 1 + 1 + 1 + 1 < wc.heap.size := by omega); (try have hq7 : w.heap.size + 1 + 1 + 1 + 1 + 1 + 1 + 1 < wc.heap.size := by omega); (try have hggx : gx < wc.heap.size := by omega); (try have hggy : gy < wc.heap.size := by omega); (try have hggz : gz < wc.heap.size := by omega); obtain ⟨M, hM, hcM, hfM⟩ := bcellM hbx; (try simp at hM); (try have hl0 : w.heap.size < M := by omega); (try have hcx0 := fun o => hcM (w.heap.size) o hl0); (try have hfx0 := fun o => hfM (w.heap.size) o hl0); (try clear hl0); (try have hl1 : w.heap.size + 1 < M := by omega); (try have hcx1 := fun o => hcM (w.heap.size + 1) o hl1); (try have hfx1 := fun o => hfM (w.heap.size + 1) o hl1); (try clear hl1); (try have hl2 : w.heap.size + 1 + 1 < M := by omega); (try have hcx2 := fun o => hcM (w.heap.size + 1 + 1) o hl2); (try have hfx2 := fun o => hfM (w.heap.size + 1 + 1) o hl2); (try clear hl2); (try have hl3 : w.heap.size + 1 + 1 + 1 < M := by omega); (try have hcx3 := fun o => hcM (w.heap.size + 1 + 1 + 1) o hl3); (try have hfx3 := fun o => hfM (w.heap.size + 1 + 1 + 1) o hl3); (try clear hl3); (try have hl4 : w.heap.size + 1 + 1 + 1 + 1 < M := by omega); (try have hcx4 := fun o => hcM (w.heap.size + 1 + 1 + 1 + 1) o hl4); (try have hfx4 := fun o => hfM (w.heap.size + 1 + 1 + 1 + 1) o hl4); (try clear hl4); (try have hl5 : w.heap.size + 1 + 1 + 1 + 1 + 1 < M := by omega); (try have hcx5 := fun o => hcM (w.heap.size + 1 + 1 + 1 + 1 + 1) o hl5); (try have hfx5 := fun o => hfM (w.heap.size + 1 + 1 + 1 + 1 + 1) o hl5); (try clear hl5); clear hcM hfM hM M)
    cases hs : neg a == neg b
    · cases hl : below (val2 (hi (mag a)) (lo (mag a)) - val2 (hi (mag b)) (lo (mag b)))
      · have HR := Lib.hid (add_more' a b hs hl)
        go_wp2_with (go_at_call 38; refine (r1_Less _ _ _ _ _).mono ?_; rintro e wn ⟨rfl, hbn⟩; obtain ⟨hcn, hfn, hzn0, hzn1, hzn2, hzn3, hzn4, hzn5, hzn6, hzn7, hzn8⟩ := bcell hbn; (try simp only [World.size_drew] at hcn hfn hzn0 hzn1 hzn2 hzn3 hzn4 hzn5 hzn6 hzn7 hzn8); have hsn := hbn.size; (try simp at hsn); (try have hq0 : w.heap.size < wn.heap.size := by omega); (try have hq1 : w.heap.size + 1 < wn.heap.size := by omega); (try have hq2 : w.heap.size + 1 + 1 < wn.heap.size := by omega); (try have hq3 : w.heap.size + 1 + 1 + 1 < wn.heap.size := by omega); (try have hq4 : w.heap.size + 1 + 1 + 1 + 1 < wn.heap.size := by omega); (try have hq5 : w.heap.size + 1 + 1 + 1 + 1 + 1 < wn.heap.size := by omega); (try have hq6 : w.heap.size + 1 + 1 + 1 + 1 + 1 + 1 < wn.heap.size := by omega); (try have hq7 : w.heap.size + 1 + 1 + 1 + 1 + 1 + 1 + 1 < wn.heap.size := by omega); (try have hggx : gx < wn.heap.size := by omega); (try have hggy : gy < wn.heap.size := by omega); (try have hggz : gz < wn.heap.size := by omega); obtain ⟨M, hM, hcM, hfM⟩ := bcellM hbn; (try simp at hM); (try have hl0 : w.heap.size < M := by omega); (try have hcx0 := fun o => hcM (w.heap.size) o hl0); (try have hfx0 := fun o => hfM (w.heap.size) o hl0); (try clear hl0); (try have hl1 : w.heap.size + 1 < M := by omega); (try have hcx1 := fun o => hcM (w.heap.size + 1) o hl1); (try have hfx1 := fun o => hfM (w.heap.size + 1) o hl1); (try clear hl1); (try have hl2 : w.heap.size + 1 + 1 < M := by omega); (try have hcx2 := fun o => hcM (w.heap.size + 1 + 1) o hl2); (try have hfx2 := fun o => hfM (w.heap.size + 1 + 1) o hl2); (try clear hl2); (try have hl3 : w.heap.size + 1 + 1 + 1 < M := by omega); (try have hcx3 := fun o => hcM (w.heap.size + 1 + 1 + 1) o hl3); (try have hfx3 := fun o => hfM (w.heap.size + 1 + 1 + 1) o hl3); (try clear hl3); (try have hl4 : w.heap.size + 1 + 1 + 1 + 1 < M := by omega); (try have hcx4 := fun o => hcM (w.heap.size + 1 + 1 + 1 + 1) o hl4); (try have hfx4 := fun o => hfM (w.heap.size + 1 + 1 + 1 + 1) o hl4); (try clear hl4); (try have hl5 : w.heap.size + 1 + 1 + 1 + 1 + 1 < M := by omega); (try have hcx5 := fun o => hcM (w.heap.size + 1 + 1 + 1 + 1 + 1) o hl5); (try have hfx5 := fun o => hfM (w.heap.size + 1 + 1 + 1 + 1 + 1) o hl5); (try clear hl5); clear hcM hfM hM M)
        go_region_held3 (fun w' => w'.cell? ⟨w.heap.size, 0, none⟩ = some (.int .i64 (hi a)) ∧ w'.cell? ⟨w.heap.size, 1, none⟩ = some (.int .u64 (lo a)) ∧ w'.cell? ⟨w.heap.size + 1, 0, none⟩ = some (.int .i64 (hi b)) ∧ w'.cell? ⟨w.heap.size + 1, 1, none⟩ = some (.int .u64 (lo b)) ∧ w'.cell? ⟨gx, 0, none⟩ = some (.int .u64 (hi (mag a))) ∧ w'.cell? ⟨gx, 1, none⟩ = some (.int .u64 (lo (mag a))) ∧ w'.cell? ⟨gy, 0, none⟩ = some (.int .u64 (hi (mag b))) ∧ w'.cell? ⟨gy, 1, none⟩ = some (.int .u64 (lo (mag b)))) (simp (maxDischargeDepth := 8) [go_sem, *]) (first | (go_at_call 65; refine (r1_SubTwo _ _ _ _ _).mono ?_; rintro e wn ⟨rfl, hbn⟩; obtain ⟨hcn, hfn, hzn0, hzn1, hzn2, hzn3, hzn4, hzn5, hzn6, hzn7, hzn8⟩ := bcell hbn; (try simp only [World.size_drew] at hcn hfn hzn0 hzn1 hzn2 hzn3 hzn4 hzn5 hzn6 hzn7 hzn8); have hsn := hbn.size; (try simp at hsn); (try have hq0 : w.heap.size < wn.heap.size := by omega); (try have hq1 : w.heap.size + 1 < wn.heap.size := by omega); (try have hq2 : w.heap.size + 1 + 1 < wn.heap.size := by omega); (try have hq3 : w.heap.size + 1 + 1 + 1 < wn.heap.size := by omega); (try have hq4 : w.heap.size + 1 + 1 + 1 + 1 < wn.heap.size := by omega); (try have hq5 : w.heap.size + 1 + 1 + 1 + 1 + 1 < wn.heap.size := by omega); (try have hq6 : w.heap.size + 1 + 1 + 1 + 1 + 1 + 1 < wn.heap.size := by omega); (try have hq7 : w.heap.size + 1 + 1 + 1 + 1 + 1 + 1 + 1 < wn.heap.size := by omega); (try have hggx : gx < wn.heap.size := by omega); (try have hggy : gy < wn.heap.size := by omega); (try have hggz : gz < wn.heap.size := by omega); obtain ⟨M, hM, hcM, hfM⟩ := bcellM hbn; (try simp at hM); (try have hl0 : w.heap.size < M := by omega); (try have hcx0 := fun o => hcM (w.heap.size) o hl0); (try have hfx0 := fun o => hfM (w.heap.size) o hl0); (try clear hl0); (try have hl1 : w.heap.size + 1 < M := by omega); (try have hcx1 := fun o => hcM (w.heap.size + 1) o hl1); (try have hfx1 := fun o => hfM (w.heap.size + 1) o hl1); (try clear hl1); (try have hl2 : w.heap.size + 1 + 1 < M := by omega); (try have hcx2 := fun o => hcM (w.heap.size + 1 + 1) o hl2); (try have hfx2 := fun o => hfM (w.heap.size + 1 + 1) o hl2); (try clear hl2); (try have hl3 : w.heap.size + 1 + 1 + 1 < M := by omega); (try have hcx3 := fun o => hcM (w.heap.size + 1 + 1 + 1) o hl3); (try have hfx3 := fun o => hfM (w.heap.size + 1 + 1 + 1) o hl3); (try clear hl3); (try have hl4 : w.heap.size + 1 + 1 + 1 + 1 < M := by omega); (try have hcx4 := fun o => hcM (w.heap.size + 1 + 1 + 1 + 1) o hl4); (try have hfx4 := fun o => hfM (w.heap.size + 1 + 1 + 1 + 1) o hl4); (try clear hl4); (try have hl5 : w.heap.size + 1 + 1 + 1 + 1 + 1 < M := by omega); (try have hcx5 := fun o => hcM (w.heap.size + 1 + 1 + 1 + 1 + 1) o hl5); (try have hfx5 := fun o => hfM (w.heap.size + 1 + 1 + 1 + 1 + 1) o hl5); (try clear hl5); clear hcM hfM hM M) | (go_at_call 76; refine (r1_signed _ _ _ _ _ _).mono ?_; rintro e wn ⟨rfl, hbn⟩; obtain ⟨hcn, hfn, hzn0, hzn1, hzn2, hzn3, hzn4, hzn5, hzn6, hzn7, hzn8⟩ := bcell hbn; (try simp only [World.size_drew] at hcn hfn hzn0 hzn1 hzn2 hzn3 hzn4 hzn5 hzn6 hzn7 hzn8); have hsn := hbn.size; (try simp at hsn); (try have hq0 : w.heap.size < wn.heap.size := by omega); (try have hq1 : w.heap.size + 1 < wn.heap.size := by omega); (try have hq2 : w.heap.size + 1 + 1 < wn.heap.size := by omega); (try have hq3 : w.heap.size + 1 + 1 + 1 < wn.heap.size := by omega); (try have hq4 : w.heap.size + 1 + 1 + 1 + 1 < wn.heap.size := by omega); (try have hq5 : w.heap.size + 1 + 1 + 1 + 1 + 1 < wn.heap.size := by omega); (try have hq6 : w.heap.size + 1 + 1 + 1 + 1 + 1 + 1 < wn.heap.size := by omega); (try have hq7 : w.heap.size + 1 + 1 + 1 + 1 + 1 + 1 + 1 < wn.heap.size := by omega); (try have hggx : gx < wn.heap.size := by omega); (try have hggy : gy < wn.heap.size := by omega); (try have hggz : gz < wn.heap.size := by omega); obtain ⟨M, hM, hcM, hfM⟩ := bcellM hbn; (try simp at hM); (try have hl0 : w.heap.size < M := by omega); (try have hcx0 := fun o => hcM (w.heap.size) o hl0); (try have hfx0 := fun o => hfM (w.heap.size) o hl0); (try clear hl0); (try have hl1 : w.heap.size + 1 < M := by omega); (try have hcx1 := fun o => hcM (w.heap.size + 1) o hl1); (try have hfx1 := fun o => hfM (w.heap.size + 1) o hl1); (try clear hl1); (try have hl2 : w.heap.size + 1 + 1 < M := by omega); (try have hcx2 := fun o => hcM (w.heap.size + 1 + 1) o hl2); (try have hfx2 := fun o => hfM (w.heap.size + 1 + 1) o hl2); (try clear hl2); (try have hl3 : w.heap.size + 1 + 1 + 1 < M := by omega); (try have hcx3 := fun o => hcM (w.heap.size + 1 + 1 + 1) o hl3); (try have hfx3 := fun o => hfM (w.heap.size + 1 + 1 + 1) o hl3); (try clear hl3); (try have hl4 : w.heap.size + 1 + 1 + 1 + 1 < M := by omega); (try have hcx4 := fun o => hcM (w.heap.size + 1 + 1 + 1 + 1) o hl4); (try have hfx4 := fun o => hfM (w.heap.size + 1 + 1 + 1 + 1) o hl4); (try clear hl4); (try have hl5 : w.heap.size + 1 + 1 + 1 + 1 + 1 < M := by omega); (try have hcx5 := fun o => hcM (w.heap.size + 1 + 1 + 1 + 1 + 1) o hl5); (try have hfx5 := fun o => hfM (w.heap.size + 1 + 1 + 1 + 1 + 1) o hl5); (try clear hl5); clear hcM hfM hM M))
        all_goals go_wp2_with fail
        all_goals (rw [← HR.out]; (simp (maxDischargeDepth := 8) [bodyPost, results, Tryd.results41, go_sem, *]; try (repeat (first | (with_reducible exact Below.refl _ _) | (with_reducible assumption) | (with_reducible refine Below.alloc ?_ (by first | (with_reducible exact Nat.le_refl _) | omega | (simp <;> omega)) _) | (with_reducible refine Below.setCell ?_ (by first | (with_reducible exact Nat.le_refl _) | omega | (simp <;> omega)) _) | (with_reducible refine Below.drew ?_) | (with_reducible refine bel_step (by assumption) ?_ (by first | (with_reducible exact Nat.le_refl _) | omega | (simp <;> omega)))))))
      · have HR := Lib.hid (add_less' a b hs hl)
        go_wp2_with (go_at_call 38; refine (r1_Less _ _ _ _ _).mono ?_; rintro e wn ⟨rfl, hbn⟩; obtain ⟨hcn, hfn, hzn0, hzn1, hzn2, hzn3, hzn4, hzn5, hzn6, hzn7, hzn8⟩ := bcell hbn; (try simp only [World.size_drew] at hcn hfn hzn0 hzn1 hzn2 hzn3 hzn4 hzn5 hzn6 hzn7 hzn8); have hsn := hbn.size; (try simp at hsn); (try have hq0 : w.heap.size < wn.heap.size := by omega); (try have hq1 : w.heap.size + 1 < wn.heap.size := by omega); (try have hq2 : w.heap.size + 1 + 1 < wn.heap.size := by omega); (try have hq3 : w.heap.size + 1 + 1 + 1 < wn.heap.size := by omega); (try have hq4 : w.heap.size + 1 + 1 + 1 + 1 < wn.heap.size := by omega); (try have hq5 : w.heap.size + 1 + 1 + 1 + 1 + 1 < wn.heap.size := by omega); (try have hq6 : w.heap.size + 1 + 1 + 1 + 1 + 1 + 1 < wn.heap.size := by omega); (try have hq7 : w.heap.size + 1 + 1 + 1 + 1 + 1 + 1 + 1 < wn.heap.size := by omega); (try have hggx : gx < wn.heap.size := by omega); (try have hggy : gy < wn.heap.size := by omega); (try have hggz : gz < wn.heap.size := by omega); obtain ⟨M, hM, hcM, hfM⟩ := bcellM hbn; (try simp at hM); (try have hl0 : w.heap.size < M := by omega); (try have hcx0 := fun o => hcM (w.heap.size) o hl0); (try have hfx0 := fun o => hfM (w.heap.size) o hl0); (try clear hl0); (try have hl1 : w.heap.size + 1 < M := by omega); (try have hcx1 := fun o => hcM (w.heap.size + 1) o hl1); (try have hfx1 := fun o => hfM (w.heap.size + 1) o hl1); (try clear hl1); (try have hl2 : w.heap.size + 1 + 1 < M := by omega); (try have hcx2 := fun o => hcM (w.heap.size + 1 + 1) o hl2); (try have hfx2 := fun o => hfM (w.heap.size + 1 + 1) o hl2); (try clear hl2); (try have hl3 : w.heap.size + 1 + 1 + 1 < M := by omega); (try have hcx3 := fun o => hcM (w.heap.size + 1 + 1 + 1) o hl3); (try have hfx3 := fun o => hfM (w.heap.size + 1 + 1 + 1) o hl3); (try clear hl3); (try have hl4 : w.heap.size + 1 + 1 + 1 + 1 < M := by omega); (try have hcx4 := fun o => hcM (w.heap.size + 1 + 1 + 1 + 1) o hl4); (try have hfx4 := fun o => hfM (w.heap.size + 1 + 1 + 1 + 1) o hl4); (try clear hl4); (try have hl5 : w.heap.size + 1 + 1 + 1 + 1 + 1 < M := by omega); (try have hcx5 := fun o => hcM (w.heap.size + 1 + 1 + 1 + 1 + 1) o hl5); (try have hfx5 := fun o => hfM (w.heap.size + 1 + 1 + 1 + 1 + 1) o hl5); (try clear hl5); clear hcM hfM hM M)
        go_region_held3 (fun w' => w'.cell? ⟨w.heap.size, 0, none⟩ = some (.int .i64 (hi a)) ∧ w'.cell? ⟨w.heap.size, 1, none⟩ = some (.int .u64 (lo a)) ∧ w'.cell? ⟨w.heap.size + 1, 0, none⟩ = some (.int .i64 (hi b)) ∧ w'.cell? ⟨w.heap.size + 1, 1, none⟩ = some (.int .u64 (lo b)) ∧ w'.cell? ⟨gx, 0, none⟩ = some (.int .u64 (hi (mag a))) ∧ w'.cell? ⟨gx, 1, none⟩ = some (.int .u64 (lo (mag a))) ∧ w'.cell? ⟨gy, 0, none⟩ = some (.int .u64 (hi (mag b))) ∧ w'.cell? ⟨gy, 1, none⟩ = some (.int .u64 (lo (mag b)))) (simp (maxDischargeDepth := 8) [go_sem, *]) (first | (go_at_call 65; refine (r1_SubTwo _ _ _ _ _).mono ?_; rintro e wn ⟨rfl, hbn⟩; obtain ⟨hcn, hfn, hzn0, hzn1, hzn2, hzn3, hzn4, hzn5, hzn6, hzn7, hzn8⟩ := bcell hbn; (try simp only [World.size_drew] at hcn hfn hzn0 hzn1 hzn2 hzn3 hzn4 hzn5 hzn6 hzn7 hzn8); have hsn := hbn.size; (try simp at hsn); (try have hq0 : w.heap.size < wn.heap.size := by omega); (try have hq1 : w.heap.size + 1 < wn.heap.size := by omega); (try have hq2 : w.heap.size + 1 + 1 < wn.heap.size := by omega); (try have hq3 : w.heap.size + 1 + 1 + 1 < wn.heap.size := by omega); (try have hq4 : w.heap.size + 1 + 1 + 1 + 1 < wn.heap.size := by omega); (try have hq5 : w.heap.size + 1 + 1 + 1 + 1 + 1 < wn.heap.size := by omega); (try have hq6 : w.heap.size + 1 + 1 + 1 + 1 + 1 + 1 < wn.heap.size := by omega); (try have hq7 : w.heap.size + 1 + 1 + 1 + 1 + 1 + 1 + 1 < wn.heap.size := by omega); (try have hggx : gx < wn.heap.size := by omega); (try have hggy : gy < wn.heap.size := by omega); (try have hggz : gz < wn.heap.size := by omega); obtain ⟨M, hM, hcM, hfM⟩ := bcellM hbn; (try simp at hM); (try have hl0 : w.heap.size < M := by omega); (try have hcx0 := fun o => hcM (w.heap.size) o hl0); (try have hfx0 := fun o => hfM (w.heap.size) o hl0); (try clear hl0); (try have hl1 : w.heap.size + 1 < M := by omega); (try have hcx1 := fun o => hcM (w.heap.size + 1) o hl1); (try have hfx1 := fun o => hfM (w.heap.size + 1) o hl1); (try clear hl1); (try have hl2 : w.heap.size + 1 + 1 < M := by omega); (try have hcx2 := fun o => hcM (w.heap.size + 1 + 1) o hl2); (try have hfx2 := fun o => hfM (w.heap.size + 1 + 1) o hl2); (try clear hl2); (try have hl3 : w.heap.size + 1 + 1 + 1 < M := by omega); (try have hcx3 := fun o => hcM (w.heap.size + 1 + 1 + 1) o hl3); (try have hfx3 := fun o => hfM (w.heap.size + 1 + 1 + 1) o hl3); (try clear hl3); (try have hl4 : w.heap.size + 1 + 1 + 1 + 1 < M := by omega); (try have hcx4 := fun o => hcM (w.heap.size + 1 + 1 + 1 + 1) o hl4); (try have hfx4 := fun o => hfM (w.heap.size + 1 + 1 + 1 + 1) o hl4); (try clear hl4); (try have hl5 : w.heap.size + 1 + 1 + 1 + 1 + 1 < M := by omega); (try have hcx5 := fun o => hcM (w.heap.size + 1 + 1 + 1 + 1 + 1) o hl5); (try have hfx5 := fun o => hfM (w.heap.size + 1 + 1 + 1 + 1 + 1) o hl5); (try clear hl5); clear hcM hfM hM M) | (go_at_call 76; refine (r1_signed _ _ _ _ _ _).mono ?_; rintro e wn ⟨rfl, hbn⟩; obtain ⟨hcn, hfn, hzn0, hzn1, hzn2, hzn3, hzn4, hzn5, hzn6, hzn7, hzn8⟩ := bcell hbn; (try simp only [World.size_drew] at hcn hfn hzn0 hzn1 hzn2 hzn3 hzn4 hzn5 hzn6 hzn7 hzn8); have hsn := hbn.size; (try simp at hsn); (try have hq0 : w.heap.size < wn.heap.size := by omega); (try have hq1 : w.heap.size + 1 < wn.heap.size := by omega); (try have hq2 : w.heap.size + 1 + 1 < wn.heap.size := by omega); (try have hq3 : w.heap.size + 1 + 1 + 1 < wn.heap.size := by omega); (try have hq4 : w.heap.size + 1 + 1 + 1 + 1 < wn.heap.size := by omega); (try have hq5 : w.heap.size + 1 + 1 + 1 + 1 + 1 < wn.heap.size := by omega); (try have hq6 : w.heap.size + 1 + 1 + 1 + 1 + 1 + 1 < wn.heap.size := by omega); (try have hq7 : w.heap.size + 1 + 1 + 1 + 1 + 1 + 1 + 1 < wn.heap.size := by omega); (try have hggx : gx < wn.heap.size := by omega); (try have hggy : gy < wn.heap.size := by omega); (try have hggz : gz < wn.heap.size := by omega); obtain ⟨M, hM, hcM, hfM⟩ := bcellM hbn; (try simp at hM); (try have hl0 : w.heap.size < M := by omega); (try have hcx0 := fun o => hcM (w.heap.size) o hl0); (try have hfx0 := fun o => hfM (w.heap.size) o hl0); (try clear hl0); (try have hl1 : w.heap.size + 1 < M := by omega); (try have hcx1 := fun o => hcM (w.heap.size + 1) o hl1); (try have hfx1 := fun o => hfM (w.heap.size + 1) o hl1); (try clear hl1); (try have hl2 : w.heap.size + 1 + 1 < M := by omega); (try have hcx2 := fun o => hcM (w.heap.size + 1 + 1) o hl2); (try have hfx2 := fun o => hfM (w.heap.size + 1 + 1) o hl2); (try clear hl2); (try have hl3 : w.heap.size + 1 + 1 + 1 < M := by omega); (try have hcx3 := fun o => hcM (w.heap.size + 1 + 1 + 1) o hl3); (try have hfx3 := fun o => hfM (w.heap.size + 1 + 1 + 1) o hl3); (try clear hl3); (try have hl4 : w.heap.size + 1 + 1 + 1 + 1 < M := by omega); (try have hcx4 := fun o => hcM (w.heap.size + 1 + 1 + 1 + 1) o hl4); (try have hfx4 := fun o => hfM (w.heap.size + 1 + 1 + 1 + 1) o hl4); (try clear hl4); (try have hl5 : w.heap.size + 1 + 1 + 1 + 1 + 1 < M := by omega); (try have hcx5 := fun o => hcM (w.heap.size + 1 + 1 + 1 + 1 + 1) o hl5); (try have hfx5 := fun o => hfM (w.heap.size + 1 + 1 + 1 + 1 + 1) o hl5); (try clear hl5); clear hcM hfM hM M))
        all_goals go_wp2_with fail
        all_goals (rw [← HR.out]; (simp (maxDischargeDepth := 8) [bodyPost, results, Tryd.results41, go_sem, *]; try (repeat (first | (with_reducible exact Below.refl _ _) | (with_reducible assumption) | (with_reducible refine Below.alloc ?_ (by first | (with_reducible exact Nat.le_refl _) | omega | (simp <;> omega)) _) | (with_reducible refine Below.setCell ?_ (by first | (with_reducible exact Nat.le_refl _) | omega | (simp <;> omega)) _) | (with_reducible refine Below.drew ?_) | (with_reducible refine bel_step (by assumption) ?_ (by first | (with_reducible exact Nat.le_refl _) | omega | (simp <;> omega)))))))
    · have HR := Lib.hid (add_same a b (by simpa using hs))
      go_wp2_with fail
      go_region_held3 (fun w' => w'.cell? ⟨w.heap.size, 0, none⟩ = some (.int .i64 (hi a)) ∧ w'.cell? ⟨w.heap.size, 1, none⟩ = some (.int .u64 (lo a)) ∧ w'.cell? ⟨w.heap.size + 1, 0, none⟩ = some (.int .i64 (hi b)) ∧ w'.cell? ⟨w.heap.size + 1, 1, none⟩ = some (.int .u64 (lo b)) ∧ w'.cell? ⟨gx, 0, none⟩ = some (.int .u64 (hi (mag a))) ∧ w'.cell? ⟨gx, 1, none⟩ = some (.int .u64 (lo (mag a))) ∧ w'.cell? ⟨gy, 0, none⟩ = some (.int .u64 (hi (mag b))) ∧ w'.cell? ⟨gy, 1, none⟩ = some (.int .u64 (lo (mag b)))) (simp (maxDischargeDepth := 8) [go_sem, *]) (first | (go_at_call 75; refine (r1_AddTwo _ _ _ _ _).mono ?_; rintro e wn ⟨rfl, hbn⟩; obtain ⟨hcn, hfn, hzn0, hzn1, hzn2, hzn3, hzn4, hzn5, hzn6, hzn7, hzn8⟩ := bcell hbn; (try simp only [World.size_drew] at hcn hfn hzn0 hzn1 hzn2 hzn3 hzn4 hzn5 hzn6 hzn7 hzn8); have hsn := hbn.size; (try simp at hsn); (try have hq0 : w.heap.size < wn.heap.size := by omega); (try have hq1 : w.heap.size + 1 < wn.heap.size := by omega); (try have hq2 : w.heap.size + 1 + 1 < wn.heap.size := by omega); (try have hq3 : w.heap.size + 1 + 1 + 1 < wn.heap.size := by omega); (try have hq4 : w.heap.size + 1 + 1 + 1 + 1 < wn.heap.size := by omega); (try have hq5 : w.heap.size + 1 + 1 + 1 + 1 + 1 < wn.heap.size := by omega); (try have hq6 : w.heap.size + 1 + 1 + 1 + 1 + 1 + 1 < wn.heap.size := by omega); (try have hq7 : w.heap.size + 1 + 1 + 1 + 1 + 1 + 1 + 1 < wn.heap.size := by omega); (try have hggx : gx < wn.heap.size := by omega); (try have hggy : gy < wn.heap.size := by omega); (try have hggz : gz < wn.heap.size := by omega); obtain ⟨M, hM, hcM, hfM⟩ := bcellM hbn; (try simp at hM); (try have hl0 : w.heap.size < M := by omega); (try have hcx0 := fun o => hcM (w.heap.size) o hl0); (try have hfx0 := fun o => hfM (w.heap.size) o hl0); (try clear hl0); (try have hl1 : w.heap.size + 1 < M := by omega); (try have hcx1 := fun o => hcM (w.heap.size + 1) o hl1); (try have hfx1 := fun o => hfM (w.heap.size + 1) o hl1); (try clear hl1); (try have hl2 : w.heap.size + 1 + 1 < M := by omega); (try have hcx2 := fun o => hcM (w.heap.size + 1 + 1) o hl2); (try have hfx2 := fun o => hfM (w.heap.size + 1 + 1) o hl2); (try clear hl2); (try have hl3 : w.heap.size + 1 + 1 + 1 < M := by omega); (try have hcx3 := fun o => hcM (w.heap.size + 1 + 1 + 1) o hl3); (try have hfx3 := fun o => hfM (w.heap.size + 1 + 1 + 1) o hl3); (try clear hl3); (try have hl4 : w.heap.size + 1 + 1 + 1 + 1 < M := by omega); (try have hcx4 := fun o => hcM (w.heap.size + 1 + 1 + 1 + 1) o hl4); (try have hfx4 := fun o => hfM (w.heap.size + 1 + 1 + 1 + 1) o hl4); (try clear hl4); (try have hl5 : w.heap.size + 1 + 1 + 1 + 1 + 1 < M := by omega); (try have hcx5 := fun o => hcM (w.heap.size + 1 + 1 + 1 + 1 + 1) o hl5); (try have hfx5 := fun o => hfM (w.heap.size + 1 + 1 + 1 + 1 + 1) o hl5); (try clear hl5); clear hcM hfM hM M) | (go_at_call 76; refine (r1_signed _ _ _ _ _ _).mono ?_; rintro e wn ⟨rfl, hbn⟩; obtain ⟨hcn, hfn, hzn0, hzn1, hzn2, hzn3, hzn4, hzn5, hzn6, hzn7, hzn8⟩ := bcell hbn; (try simp only [World.size_drew] at hcn hfn hzn0 hzn1 hzn2 hzn3 hzn4 hzn5 hzn6 hzn7 hzn8); have hsn := hbn.size; (try simp at hsn); (try have hq0 : w.heap.size < wn.heap.size := by omega); (try have hq1 : w.heap.size + 1 < wn.heap.size := by omega); (try have hq2 : w.heap.size + 1 + 1 < wn.heap.size := by omega); (try have hq3 : w.heap.size + 1 + 1 + 1 < wn.heap.size := by omega); (try have hq4 : w.heap.size + 1 + 1 + 1 + 1 < wn.heap.size := by omega); (try have hq5 : w.heap.size + 1 + 1 + 1 + 1 + 1 < wn.heap.size := by omega); (try have hq6 : w.heap.size + 1 + 1 + 1 + 1 + 1 + 1 < wn.heap.size := by omega); (try have hq7 : w.heap.size + 1 + 1 + 1 + 1 + 1 + 1 + 1 < wn.heap.size := by omega); (try have hggx : gx < wn.heap.size := by omega); (try have hggy : gy < wn.heap.size := by omega); (try have hggz : gz < wn.heap.size := by omega); obtain ⟨M, hM, hcM, hfM⟩ := bcellM hbn; (try simp at hM); (try have hl0 : w.heap.size < M := by omega); (try have hcx0 := fun o => hcM (w.heap.size) o hl0); (try have hfx0 := fun o => hfM (w.heap.size) o hl0); (try clear hl0); (try have hl1 : w.heap.size + 1 < M := by omega); (try have hcx1 := fun o => hcM (w.heap.size + 1) o hl1); (try have hfx1 := fun o => hfM (w.heap.size + 1) o hl1); (try clear hl1); (try have hl2 : w.heap.size + 1 + 1 < M := by omega); (try have hcx2 := fun o => hcM (w.heap.size + 1 + 1) o hl2); (try have hfx2 := fun o => hfM (w.heap.size + 1 + 1) o hl2); (try clear hl2); (try have hl3 : w.heap.size + 1 + 1 + 1 < M := by omega); (try have hcx3 := fun o => hcM (w.heap.size + 1 + 1 + 1) o hl3); (try have hfx3 := fun o => hfM (w.heap.size + 1 + 1 + 1) o hl3); (try clear hl3); (try have hl4 : w.heap.size + 1 + 1 + 1 + 1 < M := by omega); (try have hcx4 := fun o => hcM (w.heap.size + 1 + 1 + 1 + 1) o hl4); (try have hfx4 := fun o => hfM (w.heap.size + 1 + 1 + 1 + 1) o hl4); (try clear hl4); (try have hl5 : w.heap.size + 1 + 1 + 1 + 1 + 1 < M := by omega); (try have hcx5 := fun o => hcM (w.heap.size + 1 + 1 + 1 + 1 + 1) o hl5); (try have hfx5 := fun o => hfM (w.heap.size + 1 + 1 + 1 + 1 + 1) o hl5); (try clear hl5); clear hcM hfM hM M))
      all_goals go_wp2_with fail
      all_goals (rw [← HR.out]; (simp (maxDischargeDepth := 8) [bodyPost, results, Tryd.results41, go_sem, *]; try (repeat (first | (with_reducible exact Below.refl _ _) | (with_reducible assumption) | (with_reducible refine Below.alloc ?_ (by first | (with_reducible exact Nat.le_refl _) | omega | (simp <;> omega)) _) | (with_reducible refine Below.setCell ?_ (by first | (with_reducible exact Nat.le_refl _) | omega | (simp <;> omega)) _) | (with_reducible refine Below.drew ?_) | (with_reducible refine bel_step (by assumption) ?_ (by first | (with_reducible exact Nat.le_refl _) | omega | (simp <;> omega)))))))
set_option maxRecDepth 100000 in
set_option maxHeartbeats 3200000 in
theorem r1_Sub (a b : Int) [F a] [F b] : Gives 37 #[fx a, fx b] (got (subF a b)) := by
  intro w
  unfold subF
  go_enter Tryd.func37, Tryd.ntmps37
  go_wp2_with fail
  go_region_held3 (fun w' => w'.cell? ⟨w.heap.size, 0, none⟩ = some (.int .i64 (hi a)) ∧ w'.cell? ⟨w.heap.size, 1, none⟩ = some (.int .u64 (lo a)) ∧ w'.cell? ⟨w.heap.size + 1, 0, none⟩ = some (.int .i64 (hi b)) ∧ w'.cell? ⟨w.heap.size + 1, 1, none⟩ = some (.int .u64 (lo b))) (simp (maxDischargeDepth := 8) [go_sem, *]) (first | (go_at_call 22; refine (r1_Neg _ _).mono ?_; rintro e wn ⟨rfl, hbn⟩; obtain ⟨hcn, hfn, hzn0, hzn1, hzn2, hzn3, hzn4, hzn5, hzn6, hzn7, hzn8⟩ := bcell hbn; (try simp only [World.size_drew] at hcn hfn hzn0 hzn1 hzn2 hzn3 hzn4 hzn5 hzn6 hzn7 hzn8); have hsn := hbn.size; (try simp at hsn); (try have hq0 : w.heap.size < wn.heap.size := by omega); (try have hq1 : w.heap.size + 1 < wn.heap.size := by omega); (try have hq2 : w.heap.size + 1 + 1 < wn.heap.size := by omega); (try have hq3 : w.heap.size + 1 + 1 + 1 < wn.heap.size := by omega); (try have hq4 : w.heap.size + 1 + 1 + 1 + 1 < wn.heap.size := by omega); (try have hq5 : w.heap.size + 1 + 1 + 1 + 1 + 1 < wn.heap.size := by omega); (try have hq6 : w.heap.size + 1 + 1 + 1 + 1 + 1 + 1 < wn.heap.size := by omega); (try have hq7 : w.heap.size + 1 + 1 + 1 + 1 + 1 + 1 + 1 < wn.heap.size := by omega); (try have hggx : gx < wn.heap.size := by omega); (try have hggy : gy < wn.heap.size := by omega); (try have hggz : gz < wn.heap.size := by omega); obtain ⟨M, hM, hcM, hfM⟩ := bcellM hbn; (try simp at hM); (try have hl0 : w.heap.size < M := by omega); (try have hcx0 := fun o => hcM (w.heap.size) o hl0); (try have hfx0 := fun o => hfM (w.heap.size) o hl0); (try clear hl0); (try have hl1 : w.heap.size + 1 < M := by omega); (try have hcx1 := fun o => hcM (w.heap.size + 1) o hl1); (try have hfx1 := fun o => hfM (w.heap.size + 1) o hl1); (try clear hl1); (try have hl2 : w.heap.size + 1 + 1 < M := by omega); (try have hcx2 := fun o => hcM (w.heap.size + 1 + 1) o hl2); (try have hfx2 := fun o => hfM (w.heap.size + 1 + 1) o hl2); (try clear hl2); (try have hl3 : w.heap.size + 1 + 1 + 1 < M := by omega); (try have hcx3 := fun o => hcM (w.heap.size + 1 + 1 + 1) o hl3); (try have hfx3 := fun o => hfM (w.heap.size + 1 + 1 + 1) o hl3); (try clear hl3); (try have hl4 : w.heap.size + 1 + 1 + 1 + 1 < M := by omega); (try have hcx4 := fun o => hcM (w.heap.size + 1 + 1 + 1 + 1) o hl4); (try have hfx4 := fun o => hfM (w.heap.size + 1 + 1 + 1 + 1) o hl4); (try clear hl4); (try have hl5 : w.heap.size + 1 + 1 + 1 + 1 + 1 < M := by omega); (try have hcx5 := fun o => hcM (w.heap.size + 1 + 1 + 1 + 1 + 1) o hl5); (try have hfx5 := fun o => hfM (w.heap.size + 1 + 1 + 1 + 1 + 1) o hl5); (try clear hl5); clear hcM hfM hM M) | (go_at_call 41; refine (r1_Add _ _ _).mono ?_; rintro e wn ⟨rfl, hbn⟩; obtain ⟨hcn, hfn, hzn0, hzn1, hzn2, hzn3, hzn4, hzn5, hzn6, hzn7, hzn8⟩ := bcell hbn; (try simp only [World.size_drew] at hcn hfn hzn0 hzn1 hzn2 hzn3 hzn4 hzn5 hzn6 hzn7 hzn8); have hsn := hbn.size; (try simp at hsn); (try have hq0 : w.heap.size < wn.heap.size := by omega); (try have hq1 : w.heap.size + 1 < wn.heap.size := by omega); (try have hq2 : w.heap.size + 1 + 1 < wn.heap.size := by omega); (try have hq3 : w.heap.size + 1 + 1 + 1 < wn.heap.size := by omega); (try have hq4 : w.heap.size + 1 + 1 + 1 + 1 < wn.heap.size := by omega); (try have hq5 : w.heap.size + 1 + 1 + 1 + 1 + 1 < wn.heap.size := by omega); (try have hq6 : w.heap.size + 1 + 1 + 1 + 1 + 1 + 1 < wn.heap.size := by omega); (try have hq7 : w.heap.size + 1 + 1 + 1 + 1 + 1 + 1 + 1 < wn.heap.size := by omega); (try have hggx : gx < wn.heap.size := by omega); (try have hggy : gy < wn.heap.size := by omega); (try have hggz : gz < wn.heap.size := by omega); obtain ⟨M, hM, hcM, hfM⟩ := bcellM hbn; (try simp at hM); (try have hl0 : w.heap.size < M := by omega); (try have hcx0 := fun o => hcM (w.heap.size) o hl0); (try have hfx0 := fun o => hfM (w.heap.size) o hl0); (try clear hl0); (try have hl1 : w.heap.size + 1 < M := by omega); (try have hcx1 := fun o => hcM (w.heap.size + 1) o hl1); (try have hfx1 := fun o => hfM (w.heap.size + 1) o hl1); (try clear hl1); (try have hl2 : w.heap.size + 1 + 1 < M := by omega); (try have hcx2 := fun o => hcM (w.heap.size + 1 + 1) o hl2); (try have hfx2 := fun o => hfM (w.heap.size + 1 + 1) o hl2); (try clear hl2); (try have hl3 : w.heap.size + 1 + 1 + 1 < M := by omega); (try have hcx3 := fun o => hcM (w.heap.size + 1 + 1 + 1) o hl3); (try have hfx3 := fun o => hfM (w.heap.size + 1 + 1 + 1) o hl3); (try clear hl3); (try have hl4 : w.heap.size + 1 + 1 + 1 + 1 < M := by omega); (try have hcx4 := fun o => hcM (w.heap.size + 1 + 1 + 1 + 1) o hl4); (try have hfx4 := fun o => hfM (w.heap.size + 1 + 1 + 1 + 1) o hl4); (try clear hl4); (try have hl5 : w.heap.size + 1 + 1 + 1 + 1 + 1 < M := by omega); (try have hcx5 := fun o => hcM (w.heap.size + 1 + 1 + 1 + 1 + 1) o hl5); (try have hfx5 := fun o => hfM (w.heap.size + 1 + 1 + 1 + 1 + 1) o hl5); (try clear hl5); clear hcM hfM hM M))
  all_goals go_wp2_with fail
  all_goals (simp (maxDischargeDepth := 8) [bodyPost, results, Tryd.results37, go_sem, *]; try (repeat (first | (with_reducible exact Below.refl _ _) | (with_reducible assumption) | (with_reducible refine Below.alloc ?_ (by first | (with_reducible exact Nat.le_refl _) | omega | (simp <;> omega)) _) | (with_reducible refine Below.setCell ?_ (by first | (with_reducible exact Nat.le_refl _) | omega | (simp <;> omega)) _) | (with_reducible refine Below.drew ?_) | (with_reducible refine bel_step (by assumption) ?_ (by first | (with_reducible exact Nat.le_refl _) | omega | (simp <;> omega))))))
end Go.Proofs.YtpbklojdmkpkcaaDoor
