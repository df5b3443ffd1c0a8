/- What was walked by hand, as contracts over plain data. -/
import Derived.Test.YtpbklojdmkpkcaaDoorCfg
import Derived.Test.YtpbklojdmkpkcaaDoorOrc
import Derived.Test.YtpbklojdmkpkcaaDoorRefC
import Derived.Test.YtpbklojdmkpkcaaDoorTurnB
namespace Go.Proofs.YtpbklojdmkpkcaaDoor
open Go Go.RowKit
set_option linter.unusedVariables false
set_option linter.unusedSimpArgs false
/-- A number with a point, by its words. -/
def num (x : Fx) : Int := val2 x.h x.l
def mkx (a : Int) : Fx := ⟨hi a, lo a⟩
/-- It may be. -/
def okF (x : Fx) : Prop := U x.l ∧ F (num x)
/-- Two words. -/
def okT (x : Fx) : Prop := U x.h ∧ U x.l
theorem okF_mk (a : Int) [h : F a] : okF (mkx a) := ⟨lo_U a, by show F (val2 (hi a) (lo a)); rw [val2_hi_lo]; exact h⟩
theorem num_mk (a : Int) : num (mkx a) = a := val2_hi_lo a
theorem mk_num (x : Fx) (h : U x.l) : mkx (num x) = x := by
  haveI := h
  unfold mkx num
  rw [hi_val2, lo_val2]
theorem emb_Fx (x : Fx) (h : okF x) (E : Env) : (cFx.enc x).emb E = fx (num x) := by
  haveI := h.1
  show Value.agg #[.int .i64 x.h, .int .u64 x.l] = .agg #[.int .i64 (hi (val2 x.h x.l)), .int .u64 (lo (val2 x.h x.l))]
  rw [hi_val2, lo_val2]
def okV (v : Vc) : Prop := okF v.X ∧ okF v.Y
theorem emb_Vc (v : Vc) (h : okV v) (E : Env) : (cVc.enc v).emb E = vec (num v.X) (num v.Y) := by
  haveI := h.1.1
  haveI := h.2.1
  show Value.agg #[.int .i64 v.X.h, .int .u64 v.X.l, .int .i64 v.Y.h, .int .u64 v.Y.l] = .agg #[.int .i64 (hi (val2 v.X.h v.X.l)), .int .u64 (lo (val2 v.X.h v.X.l)), .int .i64 (hi (val2 v.Y.h v.Y.l)), .int .u64 (lo (val2 v.Y.h v.Y.l))]
  rw [hi_val2, lo_val2, hi_val2, lo_val2]
/-- The table of directions stands. -/
def TabI : WInv where
  p B w := 0 < B ∧ Tab w
  below B w w' h hb := by
    refine ⟨h.1, ?_⟩
    obtain ⟨t, fr, h2⟩ := h.2
    exact ⟨t, fr, by rw [hb.block _ h.1]; exact h2⟩
  mono B B' w h hB := ⟨Nat.lt_of_lt_of_le h.1 hB, h.2⟩
theorem TabI_of {w : World} (h : Tab w) : TabI.p w.heap.size w := by
  refine ⟨?_, h⟩
  obtain ⟨t, fr, h2⟩ := h
  exact (Array.getElem?_eq_some_iff.1 h2).1
/-- A number and an error; a way and an error: of the reference. -/
def gotR (x : Except Int Int) : Fx × Int := (mkx (valF x), errF x)
def PV.got (x : Fx × Int) : PV := .agg [.int .i64 x.1.h, .int .u64 x.1.l, .int .i64 x.2]
instance : Bare PV.got := ⟨fun _ => rfl⟩
def PV.res (x : Fx × Int) : PV := .tup [.agg [.int .i64 x.1.h, .int .u64 x.1.l], .int .i64 x.2]
instance : Bare PV.res := ⟨fun _ => rfl⟩
def wayR (x : Except Int (Int × Int)) : Vc × Int := (⟨mkx (valX x), mkx (valY x)⟩, errW x)
def PV.way (x : Vc × Int) : PV := .tup [.agg [.int .i64 x.1.X.h, .int .u64 x.1.X.l, .int .i64 x.1.Y.h, .int .u64 x.1.Y.l], .int .i64 x.2]
instance : Bare PV.way := ⟨fun _ => rfl⟩
def PV.rway (x : Vc × Int) : PV := .agg [.int .i64 x.1.X.h, .int .u64 x.1.X.l, .int .i64 x.1.Y.h, .int .u64 x.1.Y.l, .int .i64 x.2]
instance : Bare PV.rway := ⟨fun _ => rfl⟩
def PV.sumR (x : Fx × Bool) : PV := .agg [.int .u64 x.1.h, .int .u64 x.1.l, .raw (.bool x.2)]
instance : Bare PV.sumR := ⟨fun _ => rfl⟩
section
variable {I : WInv}
theorem k_r1_Neg : C1 Tryd.prog I 22 cFx cFx.enc okF fun x => mkx (-(num x)) := fun a h E w _ => by
  rw [emb_Fx a h]; haveI := h.2; exact r1_Neg (num a) w
theorem k_r1_Add : C2 Tryd.prog I 41 cFx cFx PV.got (fun a b => okF a ∧ okF b) fun a b => gotR (addF (num a) (num b)) := fun a b h E w _ => by
  rw [emb_Fx a h.1, emb_Fx b h.2]; haveI := h.1.2; haveI := h.2.2; exact r1_Add (num a) (num b) w
theorem k_r1_Sub : C2 Tryd.prog I 37 cFx cFx PV.got (fun a b => okF a ∧ okF b) fun a b => gotR (subF (num a) (num b)) := fun a b h E w _ => by
  rw [emb_Fx a h.1, emb_Fx b h.2]; haveI := h.1.2; haveI := h.2.2; exact r1_Sub (num a) (num b) w
theorem k_r1_Mag : C1 Tryd.prog I 39 cFx cTw.enc okF fun x => mkx (mag (num x)) := fun a h E w _ => by
  rw [emb_Fx a h]; haveI := h.2; exact r1_Mag (num a) w
theorem k_r1_Less : C2 Tryd.prog I 38 cTw cTw cB.enc (fun a b => okT a ∧ okT b) fun a b => below (num a - num b) := fun a b h E w _ => by
  haveI := h.1.1; haveI := h.1.2; haveI := h.2.1; haveI := h.2.2; exact r1_Less a.h a.l b.h b.l w
theorem k_r1_AddTwo : C2 Tryd.prog I 75 cTw cTw PV.sumR (fun a b => okT a ∧ okT b) fun a b => (mkx (mod2 (num a + num b)), over2 (num a + num b)) := fun a b h E w _ => by
  haveI := h.1.1; haveI := h.1.2; haveI := h.2.1; haveI := h.2.2; exact r1_AddTwo a.h a.l b.h b.l w
theorem k_r1_SubTwo : C2 Tryd.prog I 65 cTw cTw PV.sumR (fun a b => okT a ∧ okT b) fun a b => (mkx (mod2 (num a - num b)), below (num a - num b)) := fun a b h E w _ => by
  haveI := h.1.1; haveI := h.1.2; haveI := h.2.1; haveI := h.2.2; exact r1_SubTwo a.h a.l b.h b.l w
theorem k_r1_Int : C1 Tryd.prog I 28 (cI .i64) cFx.enc (fun n => -9223372036854775807 ≤ n ∧ n ≤ 9223372036854775807) fun n => mkx (n * 18446744073709551616) := fun n h E w _ => r1_Int n h w
theorem k_l1_Num : C1 Tryd.prog I 27 (cI .i64) (cI .i64).enc (fun _ => True) fun n => n := fun n _ E w _ => l1_Num n w
theorem k_turn_Of : C1 Tryd.prog TabI 21 (cI .i64) cVc.enc (fun n => -9223372036854775808 ≤ n ∧ n ≤ 9223372036854775807) fun n => ⟨mkx (valX (ofF n)), mkx (valY (ofF n))⟩ := fun n h E w hI => turn_Of n h w hI.2
theorem k_turn_Rotate : C2 Tryd.prog TabI 26 cVc (cI .i64) PV.way (fun v n => okV v ∧ -9223372036854775808 ≤ n ∧ n ≤ 9223372036854775807) fun v n => wayR (rotF (num v.X) (num v.Y) n) := fun v n h E w hI => by
  rw [emb_Vc v h.1]; haveI := h.1.1.2; haveI := h.1.2.2; exact turn_Rotate (num v.X) (num v.Y) n h.2 w hI.2
/-- All of them. -/
def L0 : List (FuncId × Mdl) := [(22, Pure1 (G1 cFx cFx.enc okF fun x => mkx (-(num x)))), (41, Pure1 (G2 cFx cFx PV.got (fun a b => okF a ∧ okF b) fun a b => gotR (addF (num a) (num b)))),
  (37, Pure1 (G2 cFx cFx PV.got (fun a b => okF a ∧ okF b) fun a b => gotR (subF (num a) (num b)))), (39, Pure1 (G1 cFx cTw.enc okF fun x => mkx (mag (num x)))),
  (38, Pure1 (G2 cTw cTw cB.enc (fun a b => okT a ∧ okT b) fun a b => below (num a - num b))), (75, Pure1 (G2 cTw cTw PV.sumR (fun a b => okT a ∧ okT b) fun a b => (mkx (mod2 (num a + num b)), over2 (num a + num b)))),
  (65, Pure1 (G2 cTw cTw PV.sumR (fun a b => okT a ∧ okT b) fun a b => (mkx (mod2 (num a - num b)), below (num a - num b)))), (28, Pure1 (G1 (cI .i64) cFx.enc (fun n => -9223372036854775807 ≤ n ∧ n ≤ 9223372036854775807) fun n => mkx (n * 18446744073709551616))),
  (27, Pure1 (G1 (cI .i64) (cI .i64).enc (fun _ => True) fun n => n)), (21, Pure1 (G1 (cI .i64) cVc.enc (fun n => -9223372036854775808 ≤ n ∧ n ≤ 9223372036854775807) fun n => ⟨mkx (valX (ofF n)), mkx (valY (ofF n))⟩)),
  (26, Pure1 (G2 cVc (cI .i64) PV.way (fun v n => okV v ∧ -9223372036854775808 ≤ n ∧ n ≤ 9223372036854775807) fun v n => wayR (rotF (num v.X) (num v.Y) n)))]
theorem L0_ok : AllOk Tryd.prog tid TabI L0 := ⟨k_r1_Neg.ok (enters Tryd.func22 rfl rfl), k_r1_Add.ok (enters Tryd.func41 rfl rfl), k_r1_Sub.ok (enters Tryd.func37 rfl rfl), k_r1_Mag.ok (enters Tryd.func39 rfl rfl),
  k_r1_Less.ok (enters Tryd.func38 rfl rfl), k_r1_AddTwo.ok (enters Tryd.func75 rfl rfl), k_r1_SubTwo.ok (enters Tryd.func65 rfl rfl), k_r1_Int.ok (enters Tryd.func28 rfl rfl), k_l1_Num.ok (enters Tryd.func27 rfl rfl),
  k_turn_Of.ok (enters Tryd.func21 rfl rfl), k_turn_Rotate.ok (enters Tryd.func26 rfl rfl), trivial⟩
end
end Go.Proofs.YtpbklojdmkpkcaaDoor
