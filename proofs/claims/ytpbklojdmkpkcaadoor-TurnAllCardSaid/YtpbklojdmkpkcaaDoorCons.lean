/- What was walked by hand, as contracts over plain data. -/
import Derived.Test.YtpbklojdmkpkcaaDoorCfg
import Derived.Test.YtpbklojdmkpkcaaDoorKp
import Derived.Test.YtpbklojdmkpkcaaDoorRefC
import Derived.Test.YtpbklojdmkpkcaaDoorTurnB
namespace Go.Proofs.YtpbklojdmkpkcaaDoor
open Go Go.RowKit
set_option linter.unusedVariables false
set_option linter.unusedSimpArgs false
/-- A number with a point, by its words. -/
def num (x : Fx) : Int := val2 x.h x.l
def mkx (a : Int) : Fx := ⟨hi a, lo a⟩
/-- It may be. -/
def okF (x : Fx) : Prop := U x.l ∧ F (num x)
/-- Two words. -/
def okT (x : Fx) : Prop := U x.h ∧ U x.l
instance (a : Int) : Decidable (U a) := decidable_of_iff (0 ≤ a ∧ a < 18446744073709551616) ⟨fun h => ⟨h⟩, fun h => h.h⟩
instance (a : Int) : Decidable (F a) := decidable_of_iff (-170141183460469231731687303715884105728 < a ∧ a < 170141183460469231731687303715884105728) ⟨fun h => ⟨h⟩, fun h => h.h⟩
instance (x : Fx) : Decidable (okF x) := inferInstanceAs (Decidable (U x.l ∧ F (num x)))
instance (x : Fx) : Decidable (okT x) := inferInstanceAs (Decidable (U x.h ∧ U x.l))
theorem okF_mk (a : Int) [h : F a] : okF (mkx a) := ⟨lo_U a, by show F (val2 (hi a) (lo a)); rw [val2_hi_lo]; exact h⟩
theorem num_mk (a : Int) : num (mkx a) = a := val2_hi_lo a
theorem mk_num (x : Fx) (h : U x.l) : mkx (num x) = x := by
  haveI := h
  unfold mkx num
  rw [hi_val2, lo_val2]
theorem emb_Fx (x : Fx) (h : okF x) (E : Env) : (cFx.enc x).emb E = fx (num x) := by
  haveI := h.1
  show Value.agg #[.int .i64 x.h, .int .u64 x.l] = .agg #[.int .i64 (hi (val2 x.h x.l)), .int .u64 (lo (val2 x.h x.l))]
  rw [hi_val2, lo_val2]
def okV (v : Vc) : Prop := okF v.X ∧ okF v.Y
instance (v : Vc) : Decidable (okV v) := inferInstanceAs (Decidable (okF v.X ∧ okF v.Y))
theorem emb_Vc (v : Vc) (h : okV v) (E : Env) : (cVc.enc v).emb E = vec (num v.X) (num v.Y) := by
  haveI := h.1.1
  haveI := h.2.1
  show Value.agg #[.int .i64 v.X.h, .int .u64 v.X.l, .int .i64 v.Y.h, .int .u64 v.Y.l] = .agg #[.int .i64 (hi (val2 v.X.h v.X.l)), .int .u64 (lo (val2 v.X.h v.X.l)), .int .i64 (hi (val2 v.Y.h v.Y.l)), .int .u64 (lo (val2 v.Y.h v.Y.l))]
  rw [hi_val2, lo_val2, hi_val2, lo_val2]
/-- The table of directions stands. -/
def TabI : WInv where
  p B w := 0 < B ∧ Tab w
  below B w w' h hb := by
    refine ⟨h.1, ?_⟩
    obtain ⟨t, fr, h2⟩ := h.2
    exact ⟨t, fr, by rw [hb.block _ h.1]; exact h2⟩
  mono B B' w h hB := ⟨Nat.lt_of_lt_of_le h.1 hB, h.2⟩
theorem TabI_of {w : World} (h : Tab w) : TabI.p w.heap.size w := by
  refine ⟨?_, h⟩
  obtain ⟨t, fr, h2⟩ := h
  exact (Array.getElem?_eq_some_iff.1 h2).1
/-- A number and an error; a way and an error: of the reference. -/
def gotR (x : Except Int Int) : Fx × Int := (mkx (valF x), errF x)
def PV.got (x : Fx × Int) : PV := .agg [.int .i64 x.1.h, .int .u64 x.1.l, .int .i64 x.2]
instance : Bare PV.got := ⟨fun _ => rfl⟩
def PV.res (x : Fx × Int) : PV := .tup [.agg [.int .i64 x.1.h, .int .u64 x.1.l], .int .i64 x.2]
instance : Bare PV.res := ⟨fun _ => rfl⟩
def wayR (x : Except Int (Int × Int)) : Vc × Int := (⟨mkx (valX x), mkx (valY x)⟩, errW x)
def PV.way (x : Vc × Int) : PV := .tup [.agg [.int .i64 x.1.X.h, .int .u64 x.1.X.l, .int .i64 x.1.Y.h, .int .u64 x.1.Y.l], .int .i64 x.2]
instance : Bare PV.way := ⟨fun _ => rfl⟩
def PV.rway (x : Vc × Int) : PV := .agg [.int .i64 x.1.X.h, .int .u64 x.1.X.l, .int .i64 x.1.Y.h, .int .u64 x.1.Y.l, .int .i64 x.2]
instance : Bare PV.rway := ⟨fun _ => rfl⟩
def PV.sumR (x : Fx × Bool) : PV := .agg [.int .u64 x.1.h, .int .u64 x.1.l, .raw (.bool x.2)]
instance : Bare PV.sumR := ⟨fun _ => rfl⟩
section
variable {I : WInv}
theorem k_r1_Neg : C1 Tryd.prog I 22 cFx cFx.enc okF fun x => mkx (-(num x)) := fun a h E w _ => by
  rw [emb_Fx a h]; haveI := h.2; exact r1_Neg (num a) w
theorem k_r1_Add : C2 Tryd.prog I 41 cFx cFx PV.got (fun a b => okF a ∧ okF b) fun a b => gotR (addF (num a) (num b)) := fun a b h E w _ => by
  rw [emb_Fx a h.1, emb_Fx b h.2]; haveI := h.1.2; haveI := h.2.2; exact r1_Add (num a) (num b) w
theorem k_r1_Sub : C2 Tryd.prog I 37 cFx cFx PV.got (fun a b => okF a ∧ okF b) fun a b => gotR (subF (num a) (num b)) := fun a b h E w _ => by
  rw [emb_Fx a h.1, emb_Fx b h.2]; haveI := h.1.2; haveI := h.2.2; exact r1_Sub (num a) (num b) w
theorem k_r1_Mag : C1 Tryd.prog I 39 cFx cTw.enc okF fun x => mkx (mag (num x)) := fun a h E w _ => by
  rw [emb_Fx a h]; haveI := h.2; exact r1_Mag (num a) w
theorem k_r1_Less : C2 Tryd.prog I 38 cTw cTw cB.enc (fun a b => okT a ∧ okT b) fun a b => below (num a - num b) := fun a b h E w _ => by
  haveI := h.1.1; haveI := h.1.2; haveI := h.2.1; haveI := h.2.2; exact r1_Less a.h a.l b.h b.l w
theorem k_r1_AddTwo : C2 Tryd.prog I 75 cTw cTw PV.sumR (fun a b => okT a ∧ okT b) fun a b => (mkx (mod2 (num a + num b)), over2 (num a + num b)) := fun a b h E w _ => by
  haveI := h.1.1; haveI := h.1.2; haveI := h.2.1; haveI := h.2.2; exact r1_AddTwo a.h a.l b.h b.l w
theorem k_r1_SubTwo : C2 Tryd.prog I 65 cTw cTw PV.sumR (fun a b => okT a ∧ okT b) fun a b => (mkx (mod2 (num a - num b)), below (num a - num b)) := fun a b h E w _ => by
  haveI := h.1.1; haveI := h.1.2; haveI := h.2.1; haveI := h.2.2; exact r1_SubTwo a.h a.l b.h b.l w
theorem k_r1_Int : C1 Tryd.prog I 28 (cI .i64) cFx.enc (fun n => -9223372036854775807 ≤ n ∧ n ≤ 9223372036854775807) fun n => mkx (n * 18446744073709551616) := fun n h E w _ => r1_Int n h w
theorem k_l1_Num : C1 Tryd.prog I 27 (cI .i64) (cI .i64).enc (fun _ => True) fun n => n := fun n _ E w _ => l1_Num n w
theorem k_turn_Of : C1 Tryd.prog TabI 21 (cI .i64) cVc.enc (fun n => -9223372036854775808 ≤ n ∧ n ≤ 9223372036854775807) fun n => ⟨mkx (valX (ofF n)), mkx (valY (ofF n))⟩ := fun n h E w hI => turn_Of n h w hI.2
theorem k_turn_Rotate : C2 Tryd.prog TabI 26 cVc (cI .i64) PV.way (fun v n => okV v ∧ -9223372036854775808 ≤ n ∧ n ≤ 9223372036854775807) fun v n => wayR (rotF (num v.X) (num v.Y) n) := fun v n h E w hI => by
  rw [emb_Vc v h.1]; haveI := h.1.1.2; haveI := h.1.2.2; exact turn_Rotate (num v.X) (num v.Y) n h.2 w hI.2
end
/-- All of them. -/
def L0 : List (Ent Tryd.prog tid TabI) := [e1 k_r1_Neg Tryd.func22, e2 k_r1_Add Tryd.func41, e2 k_r1_Sub Tryd.func37, e1 k_r1_Mag Tryd.func39, e2 k_r1_Less Tryd.func38, e2 k_r1_AddTwo Tryd.func75, e2 k_r1_SubTwo Tryd.func65,
  e1 k_r1_Int Tryd.func28, e1 k_l1_Num Tryd.func27, e1 k_turn_Of Tryd.func21, e2 k_turn_Rotate Tryd.func26]
end Go.Proofs.YtpbklojdmkpkcaaDoor
