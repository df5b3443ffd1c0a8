/- The reference's wide numbers: MulTwo, words, four, bit, CmpFour; as contracts. -/
import Derived.Test.YtpbklojdmkpkcaaDoorRefD
namespace Go.Proofs.YtpbklojdmkpkcaaDoor
open Go Go.RowKit
set_option linter.unusedVariables false
set_option linter.unusedSimpArgs false
set_option maxRecDepth 100000
theorem num_of (a : Fx) : num a = a.h * 18446744073709551616 + a.l := rfl
theorem plus_num (a : Vc) (b : Fx) (c : Bool) : num4 (plusS a b c) = (num4 a + num b * (bif c then 18446744073709551616 else 340282366920938463463374607431768211456)) % 115792089237316195423570985008687907853269984665640564039457584007913129639936 := num4_mk _
theorem plus_ok (a : Vc) (b : Fx) (c : Bool) : ok4 (plusS a b c) := ok4_mk _ (by omega)
theorem U_mul (a b : Int) (h : U a) (k : U b) : 0 ≤ a * b ∧ a * b < 340282366920938463463374607431768211456 := by
  have := mul_bd (n := 18446744073709551615) ⟨h.h.1, by have := h.h; omega⟩ ⟨k.h.1, by have := k.h; omega⟩
  omega
theorem k_r1_MulTwo : C2 Tryd.prog TabI 74 cTw cTw cFo.enc (fun a b => okT a ∧ okT b) fun a b => mk4 (num a * num b) :=
  .ev (fun _ _ => []) mixed (mkOrc_ok (l := L1) (x := []) trivial) Tryd.func74 (by decide) fun a b h => by
    refine ⟨?_⟩
    have e : evPure Tryd.prog (mkOrc L1 []) Tryd.f74 [] [cTw.enc a, cTw.enc b] =
      Tr.chk (decide (U a.l ∧ U b.l)) (Tr.chk (decide (U a.h ∧ U b.h)) (Tr.chk (decide (ok4 { X := { h := (0 : Int), l := (0 : Int) }, Y := mkx (a.l * b.l) } ∧ okT (mkx (a.h * b.h)))) (Tr.chk (decide (U a.h ∧ U b.l)) (Tr.chk (decide (ok4 (plusS { X := { h := (0 : Int), l := (0 : Int) }, Y := mkx (a.l * b.l) } (mkx (a.h * b.h)) false) ∧ okT (mkx (a.h * b.l)))) (Tr.chk (decide (U a.l ∧ U b.h)) (Tr.chk (decide (ok4 (plusS (plusS { X := { h := (0 : Int), l := (0 : Int) }, Y := mkx (a.l * b.l) } (mkx (a.h * b.h)) false) (mkx (a.h * b.l)) true) ∧ okT (mkx (a.l * b.h)))) (Tr.ret (@Cod.enc Vc cFo (plusS (plusS (plusS { X := { h := (0 : Int), l := (0 : Int) }, Y := mkx (a.l * b.l) } (mkx (a.h * b.h)) false) (mkx (a.h * b.l)) true) (mkx (a.l * b.h)) true))))))))) := by kernel_rfl
    rw [e]; clear e
    simp only [Tr.holds, decide_eq_true_eq]
    obtain ⟨ha, hb⟩ := h
    have e0 : ∀ n, num4 ⟨⟨0, 0⟩, mkx n⟩ = n := fun n => by show num ⟨0, 0⟩ * _ + num (mkx n) = n; rw [num_lo, num_mk]; omega
    have p1 := U_mul _ _ ha.2 hb.2
    have p2 := U_mul _ _ ha.1 hb.1
    have p3 := U_mul _ _ ha.1 hb.2
    have p4 := U_mul _ _ ha.2 hb.1
    refine ⟨⟨ha.2, hb.2⟩, ⟨ha.1, hb.1⟩, ⟨⟨okT_lo _ (inferInstance : U 0), okT_mk _ p1⟩, okT_mk _ p2⟩, ⟨ha.1, hb.2⟩, ⟨plus_ok _ _ _, okT_mk _ p3⟩, ⟨ha.2, hb.1⟩, ⟨plus_ok _ _ _, okT_mk _ p4⟩, congrArg cFo.enc ?_⟩
    rw [← mk4_num (plusS _ _ _) (plus_ok _ _ _)]
    congr 1
    rw [plus_num, plus_num, plus_num, e0, num_mk, num_mk, num_mk, num_of a, num_of b, cond_true, cond_false]
    have e : (a.h * 18446744073709551616 + a.l) * (b.h * 18446744073709551616 + b.l) = a.h * b.h * 340282366920938463463374607431768211456 + a.h * b.l * 18446744073709551616 + a.l * b.h * 18446744073709551616 + a.l * b.l := by
      rw [Int.add_mul, Int.mul_add, Int.mul_add]
      rw [show a.h * 18446744073709551616 * (b.h * 18446744073709551616) = a.h * b.h * 340282366920938463463374607431768211456 from by rw [Int.mul_right_comm, ← Int.mul_assoc a.h b.h, Int.mul_assoc (a.h * b.h)]; rfl]
      rw [show a.h * 18446744073709551616 * b.l = a.h * b.l * 18446744073709551616 from by rw [Int.mul_right_comm]]
      rw [← Int.mul_assoc a.l b.h]
      omega
    rw [e]
    have hab := mul_bd (n := 340282366920938463463374607431768211455) ⟨(num_T a ha).1, by have := num_T a ha; omega⟩ ⟨(num_T b hb).1, by have := num_T b hb; omega⟩
    rw [num_of a, num_of b, e] at hab
    clear e e0
    simp only [Int.reduceMul] at hab
    generalize a.h * b.h = q1 at *
    generalize a.h * b.l = q2 at *
    generalize a.l * b.h = q3 at *
    generalize a.l * b.l = q4 at *
    omega
def wordsS (a : Vc) : List Int := [a.Y.l, a.Y.h, a.X.l, a.X.h]
theorem k_r1_words : CR Tryd.prog tid TabI 113 (aPlain cFo) (aRow .u64) [] (fun _ => True) wordsS :=
  .ev (fun _ => []) mixed (mkOrc_ok (l := L1) (x := []) trivial) Tryd.func113 (fun _ => Nat.le_of_ble_eq_true rfl) rfl fun a h => by
    refine ⟨?_⟩
    have e : evR Tryd.prog (mkOrc L1 []) Tryd.f113 [] (aPlain cFo) (aRow .u64) [] a =
      Tr.ret [a.Y.l, a.Y.h, a.X.l, a.X.h] := by kernel_rfl
    rw [e]; clear e
    rfl
def fourS (w : List Int) : Vc := ⟨⟨w.getD 3 0, w.getD 2 0⟩, ⟨w.getD 1 0, w.getD 0 0⟩⟩
theorem k_r1_four : CR Tryd.prog tid TabI 114 (aRow .u64) (aPlain cFo) [] (fun w => w.length = 4) fourS :=
  .ev (fun _ => []) mixed (mkOrc_ok (l := L1) (x := []) trivial) Tryd.func114 (fun _ => Nat.le_of_ble_eq_true rfl) rfl fun a h => by
    refine ⟨?_⟩
    have e : evR Tryd.prog (mkOrc L1 []) Tryd.f114 [] (aRow .u64) (aPlain cFo) [] a =
      Tr.chk (true && decide ((3 : Int) < ↑a.length)) (Tr.chk (Nat.blt (3 : Nat) a.length) (Tr.chk (true && decide ((2 : Int) < ↑a.length)) (Tr.chk (Nat.blt (2 : Nat) a.length) (Tr.chk (true && decide ((1 : Int) < ↑a.length)) (Tr.chk (Nat.blt (1 : Nat) a.length) (Tr.chk (true && decide ((0 : Int) < ↑a.length)) (Tr.chk (Nat.blt (0 : Nat) a.length) (Tr.ret { X := { h := a.getD (3 : Nat) ET.u64.dflt, l := a.getD (2 : Nat) ET.u64.dflt }, Y := { h := a.getD (1 : Nat) ET.u64.dflt, l := a.getD (0 : Nat) ET.u64.dflt } })))))))) := by kernel_rfl
    rw [e]; clear e
    simp only [Tr.holds, Bool.and_eq_true, decide_eq_true_eq, Nat.blt_eq]
    refine ⟨⟨trivial, by omega⟩, by omega, ⟨trivial, by omega⟩, by omega, ⟨trivial, by omega⟩, by omega, ⟨trivial, by omega⟩, by omega, rfl⟩
def L2 : List (Ent Tryd.prog tid TabI) := e2 k_r1_MulTwo Tryd.func74 :: eR k_r1_words Tryd.func113 :: eR k_r1_four Tryd.func114 :: L1
end Go.Proofs.YtpbklojdmkpkcaaDoor
