/- Copies of rows; the table of directions, handed out; as contracts. -/
import Derived.Test.YtpbklojdmkpkcaaDoorRefL
namespace Go.Proofs.YtpbklojdmkpkcaaDoor
open Go Go.RowKit
set_option linter.unusedVariables false
set_option linter.unusedSimpArgs false
set_option maxRecDepth 100000
theorem k_clone_Vec : CR Tryd.prog tid TabI 71 (aRow .vec) (aRow .vec) [] (fun l => l.length ≤ 1000000) id :=
  .ev (fun _ => []) mixed (mkOrc_ok (l := E0) (x := []) trivial) Tryd.func71 (fun _ => Nat.le_of_ble_eq_true rfl) rfl fun l h => by
    refine ⟨?_⟩
    have e : evR Tryd.prog (mkOrc E0 []) Tryd.f71 [] (aRow .vec) (aRow .vec) [] l =
      Tr.all Bool (fun c => c = true → l = []) fun x => Tr.ite (false != x) (Tr.ret []) (Tr.chk ((((0 : Nat) + l.length) * (32 : Nat)).ble (140737488355328 : Nat)) (Tr.ret ([] ++ l))) := by kernel_rfl
    rw [e]; clear e
    simp only [Tr.holds]
    refine fun x hx => ⟨fun hc => ?_, fun hc => ⟨by rw [Nat.ble_eq]; omega, rfl⟩⟩
    have : x = true := by cases x; cases hc; rfl
    rw [hx this]; rfl
theorem tab_cells : tabV.flatMap (ET.cells .vec) = tabCells.toList := by kernel_rfl
theorem clone_tab (w w1 : World) (t : TypeId) (E : Env) (hI : TabI.p w.heap.size w) (hs : w.heap.size < w1.heap.size) (hw : w1.heap[w.heap.size]? = some (.cells tabCells t (0, 0))) (hb : Below w.heap.size w w1) :
    Calls Tryd.prog 71 #[.slice (some ⟨w.heap.size, 0, none⟩) 14 14] w1 fun e w' => ∃ (E' : Env) (ns : List (Option Nat)), e = .returned ((encRow .vec (nmOf ns 0)).emb E') ∧ Below w.heap.size w w' ∧ ResOk tid w.heap.size E E' w' [] ns [⟨.vec, tabV⟩] := by
  let E1 : Env := ⟨fun _ => some (w.heap.size, 0), fun _ => 14, fun _ => 14⟩
  have hM1 : MemRel tid w1.heap.size E1 (canon (aRow .vec) tabV) w1 := by
    have is : ∀ n k, canon (aRow .vec) tabV n = some k → n = 0 ∧ k = .row false .vec tabV := by
      intro n k h
      cases n with
      | zero => cases h; exact ⟨rfl, rfl⟩
      | succ n => cases h
    refine ⟨fun n k h => ?_, fun n k h x hx => ?_, fun n c k kc x y f g hne h1 h2 o => ?_⟩
    · obtain ⟨rfl, rfl⟩ := is n k h
      refine ⟨rfl, (show 14 ≤ 14 by decide), fun j hj => ?_, fun _ => hs, (fun h => by cases h)⟩
      rw [tab_cells]
      simp only [Nat.zero_add, World.cell?, hw]
      simp
    · obtain ⟨rfl, rfl⟩ := is n k h; cases hx
    · obtain ⟨rfl, rfl⟩ := is n k h1; cases o
  refine (k_clone_Vec tabV (by decide) E1 w1 hM1 (TabI.mono _ _ _ (TabI.below _ _ _ hI hb) (Nat.le_of_lt hs))).mono ?_
  rintro e w' ⟨E', ns, rfl, hbel, hres⟩
  refine ⟨E', ns, rfl, hb.trans (hbel.mono (Nat.le_of_lt hs)), ⟨(fun j i hj ha => by cases ha), hres.nil, fun j r b h1 h2 h3 => ?_, hres.apart⟩⟩
  have := hres.row j r b h1 h2 h3
  unfold RowOk at this ⊢
  split
  · rename_i hk; rw [hk] at this; exact this
  · rename_i k f hk
    rw [hk] at this
    obtain ⟨p1, p2, p3, p4, p5⟩ := this
    exact ⟨p1, p2, p3, (fun h => by cases h), fun _ => ⟨Nat.le_trans (Nat.le_of_lt hs) (p5 rfl).1, (p5 rfl).2⟩⟩
theorem k_turn_Table : CR Tryd.prog tid TabI 34 aNil (aRow .vec) [] (fun _ => True) fun _ => tabV := by
  intro a _ E w hM hI
  have hI' := hI
  obtain ⟨h0, t, fr, hT⟩ := hI
  have HT := Lib.hid hT
  clear hT
  show Calls Tryd.prog 34 #[] w _
  go_enter Tryd.func34, Tryd.ntmps34
  go_wp2_with (first | (refine wpList_load_row rfl _ _ rfl 0 rfl t tabCells fr _ (((by (repeat (first | (with_reducible exact Below.refl _ _) | (with_reducible assumption) | (with_reducible refine Below.alloc ?_ (by first | (with_reducible exact Nat.le_refl _) | omega | (simp <;> omega)) _) | (with_reducible refine Below.setCell ?_ (by first | (with_reducible exact Nat.le_refl _) | omega | (simp <;> omega)) _) | (with_reducible refine Below.drew ?_) | (with_reducible refine bel_step (by assumption) ?_ (by first | (with_reducible exact Nat.le_refl _) | omega | (simp <;> omega))))) : Below w.heap.size w _).block 0 h0).trans HT.out) Tryd.underlying113 rfl (by kernel_rfl) ?_) | refine wpList_store_row rfl _ _ _ rfl w.heap.size tabCells rfl rfl _ _ (heap_alloc_new w _) (by kernel_rfl) rfl (by kernel_rfl) ?_)
  refine (clone_tab w _ 113 E hI' (by simp) (setRow_heap _ _ _ _ _ _ (heap_alloc_new w _)) (below_setRow (by (repeat (first | (with_reducible exact Below.refl _ _) | (with_reducible assumption) | (with_reducible refine Below.alloc ?_ (by first | (with_reducible exact Nat.le_refl _) | omega | (simp <;> omega)) _) | (with_reducible refine Below.setCell ?_ (by first | (with_reducible exact Nat.le_refl _) | omega | (simp <;> omega)) _) | (with_reducible refine Below.drew ?_) | (with_reducible refine bel_step (by assumption) ?_ (by first | (with_reducible exact Nat.le_refl _) | omega | (simp <;> omega)))))) (Nat.le_refl _) _)).mono ?_
  rintro e wn ⟨E', ns, rfl, hb, hres⟩
  simp only
  go_wp2_with fail
  refine ⟨rfl, (encRow .vec (nmOf ns 0)).emb E', ?_, E', ns, rfl, hb, hres⟩
  simp [results, Tryd.results34, go_sem]
end Go.Proofs.YtpbklojdmkpkcaaDoor
