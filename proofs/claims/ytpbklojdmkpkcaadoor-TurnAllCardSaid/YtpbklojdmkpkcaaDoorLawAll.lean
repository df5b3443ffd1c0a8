/- The law TurnAll: what it comes to, in every world that holds the table of directions. -/
import Derived.Test.YtpbklojdmkpkcaaDoorLawB
namespace Go.Proofs.YtpbklojdmkpkcaaDoor
open Go Go.RowKit
set_option linter.unusedVariables false
set_option linter.unusedSimpArgs false
set_option maxRecDepth 100000
/-- A number's words as they may be. -/
def rawF (x : Fx) : Prop := (-9223372036854775808 ≤ x.h ∧ x.h ≤ 9223372036854775807) ∧ 0 ≤ x.l ∧ x.l ≤ 18446744073709551615
def rawV (v : Vc) : Prop := rawF v.X ∧ rawF v.Y
theorem may_ok (x : Fx) (h : rawF x) (hm : mayF x.h x.l = true) : okF x := by
  obtain ⟨h1, h2⟩ := h
  refine ⟨⟨by omega⟩, ⟨?_⟩⟩
  unfold mayF at hm
  rw [Bool.or_eq_true, bne_iff_ne, bne_iff_ne] at hm
  unfold num val2
  omega
theorem k_l5_TurnAll : C2 Tryd.prog TabI 6 cVc (cI .i64) cB.enc (fun v a => rawV v ∧ -9223372036854775808 ≤ a ∧ a ≤ 9223372036854775807) fun _ _ => true :=
  .ev (fun _ _ => []) mixed (mkOrc_ok (l := L8) (x := []) trivial) Tryd.func6 (by decide) fun v a h => by
    refine ⟨?_⟩
    have e : evPure Tryd.prog (mkOrc L8 []) Tryd.f6 [] [cVc.enc v, (cI .i64).enc a] =
      Tr.chk (decide True) (Tr.ite (!(mayF v.X.h v.X.l && mayF v.Y.h v.Y.l)) (Tr.chk (decide ((-9223372036854775808 : Int) ≤ a ∧ a ≤ (9223372036854775807 : Int))) (Tr.chk (decide ((-9223372036854775808 : Int) ≤ a ∧ a ≤ (9223372036854775807 : Int))) (Tr.ite ((mkx (valX (ofF a))).h == (mkx (valX (ofF a))).h && ((mkx (valX (ofF a))).l == (mkx (valX (ofF a))).l && true) && ((mkx (valY (ofF a))).h == (mkx (valY (ofF a))).h && ((mkx (valY (ofF a))).l == (mkx (valY (ofF a))).l && true) && true)) (Tr.ret (PV.raw (Value.bool true))) (Tr.ret (PV.raw (Value.bool false)))))) (Tr.chk (decide (okV v ∧ (-9223372036854775808 : Int) ≤ a ∧ a ≤ (9223372036854775807 : Int))) (Tr.chk (decide (okV v ∧ (-9223372036854775808 : Int) ≤ a ∧ a ≤ (9223372036854775807 : Int))) (Tr.chk (decide ((-9223372036854775808 : Int) ≤ a ∧ a ≤ (9223372036854775807 : Int))) (Tr.chk (decide ((-9223372036854775808 : Int) ≤ a ∧ a ≤ (9223372036854775807 : Int))) (Tr.ite ((mkx (valX (ofF a))).h == (mkx (valX (ofF a))).h && ((mkx (valX (ofF a))).l == (mkx (valX (ofF a))).l && true) && ((mkx (valY (ofF a))).h == (mkx (valY (ofF a))).h && ((mkx (valY (ofF a))).l == (mkx (valY (ofF a))).l && true) && true)) (Tr.ite (bif true then (mkx (valX (rotF (num v.X) (num v.Y) a))).h == (mkx (valX (rotF (num v.X) (num v.Y) a))).h && ((mkx (valX (rotF (num v.X) (num v.Y) a))).l == (mkx (valX (rotF (num v.X) (num v.Y) a))).l && true) && ((mkx (valY (rotF (num v.X) (num v.Y) a))).h == (mkx (valY (rotF (num v.X) (num v.Y) a))).h && ((mkx (valY (rotF (num v.X) (num v.Y) a))).l == (mkx (valY (rotF (num v.X) (num v.Y) a))).l && true) && true) else false) (Tr.chk (decide True) (Tr.ite (bif true then errW (rotF (num v.X) (num v.Y) a) == errW (rotF (num v.X) (num v.Y) a) else false) (Tr.chk true (Tr.chk true (Tr.chk true (Tr.ite true (Tr.ret (PV.raw (Value.bool true))) (Tr.ret (PV.raw (Value.bool false))))))) (Tr.ite false (Tr.ret (PV.raw (Value.bool true))) (Tr.ret (PV.raw (Value.bool false)))))) (Tr.ite false (Tr.chk true (Tr.chk true (Tr.chk true (Tr.ite true (Tr.ret (PV.raw (Value.bool true))) (Tr.ret (PV.raw (Value.bool false))))))) (Tr.ite false (Tr.ret (PV.raw (Value.bool true))) (Tr.ret (PV.raw (Value.bool false)))))) (Tr.ite false (Tr.chk (decide True) (Tr.ite (bif true then errW (rotF (num v.X) (num v.Y) a) == errW (rotF (num v.X) (num v.Y) a) else false) (Tr.chk true (Tr.chk true (Tr.chk true (Tr.ite true (Tr.ret (PV.raw (Value.bool true))) (Tr.ret (PV.raw (Value.bool false))))))) (Tr.ite false (Tr.ret (PV.raw (Value.bool true))) (Tr.ret (PV.raw (Value.bool false)))))) (Tr.ite false (Tr.chk true (Tr.chk true (Tr.chk true (Tr.ite true (Tr.ret (PV.raw (Value.bool true))) (Tr.ret (PV.raw (Value.bool false))))))) (Tr.ite false (Tr.ret (PV.raw (Value.bool true))) (Tr.ret (PV.raw (Value.bool false)))))))))))) := by kernel_rfl
    rw [e]; clear e
    simp only [Tr.holds, decide_eq_true_eq]
    have ht : PV.raw (Value.bool true) = cB.enc true := rfl
    simp only [beq_self_eq_true, Bool.and_true, Bool.and_self, cond_true, ht, true_implies, Bool.true_eq_false, Bool.false_eq_true, false_implies, and_true, true_and, Bool.not_eq_true', Bool.not_eq_false', h.2, and_self, implies_true]
    intro hm
    rw [Bool.and_eq_true] at hm
    exact ⟨may_ok _ h.1.1 hm.1, may_ok _ h.1.2 hm.2⟩
end Go.Proofs.YtpbklojdmkpkcaaDoor
