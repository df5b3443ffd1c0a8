/- The reference's numbers: products, quotients, roots, halves; as contracts. -/
import Derived.Test.YtpbklojdmkpkcaaDoorRefI
namespace Go.Proofs.YtpbklojdmkpkcaaDoor
open Go Go.RowKit
set_option linter.unusedVariables false
set_option linter.unusedSimpArgs false
set_option maxRecDepth 100000
theorem mk4_X (n : Int) : (mk4 n).X = mkx (n / 340282366920938463463374607431768211456) := rfl
theorem mk4_Y (n : Int) : (mk4 n).Y = mkx (n % 340282366920938463463374607431768211456) := rfl
theorem num4_st (x y : Fx) : num4 ⟨x, y⟩ = num x * 340282366920938463463374607431768211456 + num y := rfl
theorem ok4_st (x y : Fx) : ok4 ⟨x, y⟩ ↔ okT x ∧ okT y := Iff.rfl
theorem okT_mk_iff (n : Int) : okT (mkx n) ↔ 0 ≤ n ∧ n < 340282366920938463463374607431768211456 := ⟨fun h => by have := num_T _ h; rwa [num_mk] at this, okT_mk n⟩
theorem ok4_mk_iff (n : Int) : ok4 (mk4 n) ↔ 0 ≤ n ∧ n < 115792089237316195423570985008687907853269984665640564039457584007913129639936 := ⟨fun h => by have := num4_bd _ h; rwa [num4_mk] at this, ok4_mk n⟩
theorem okT_00 : okT ⟨0, 0⟩ ↔ True := iff_true_intro ⟨(inferInstance : U 0), (inferInstance : U 0)⟩
theorem neg_num (x : Fx) (h : U x.l) : decide (x.h < 0) = neg (num x) := by
  have := h.h
  unfold neg num val2
  rw [decide_eq_decide]; omega
theorem mag_two (x : Fx) (h : okF x) : 0 ≤ mag (num x) ∧ mag (num x) < 170141183460469231731687303715884105728 := by
  haveI := h.2
  exact ⟨mag_nn _, mag_lt _⟩
theorem sqL_bd (n : Int) : ∀ (k : Nat) (s : Int), s ≤ sqL n k s ∧ sqL n k s < s + 2 ^ k
  | 0, s => by simp only [sqL]; omega
  | k + 1, s => by
    have i1 := sqL_bd n k (s + 2 ^ k)
    have i2 := sqL_bd n k s
    have hp := two_pos k
    simp only [sqL]
    rw [Int.pow_succ]
    split <;> omega
theorem isq_bd (n : Int) : 0 ≤ isq n ∧ isq n < 340282366920938463463374607431768211456 := by
  have := sqL_bd n 128 0
  unfold isq
  rw [show (2 : Int) ^ 128 = 340282366920938463463374607431768211456 from by decide] at this
  omega
theorem xor_is (a b : Bool) : (!a == b) = (a != b) := by cases a <;> cases b <;> rfl
def divF (a b : Int) : Except Int Int := if b = 0 then .error 2 else tell ((mag a * 36893488147419103232 + mag b) / (2 * mag b)) (neg a != neg b)
def sqrtF (a : Int) : Except Int Int := if a < 0 then .error 1 else tell (isq (mag a * 18446744073709551616)) false
def halfF (a : Int) : Int := if a < 0 then -((1 - a) / 2) else (a + 1) / 2
theorem k_r1_Mul : C2 Tryd.prog TabI 40 cFx cFx PV.got (fun a b => okF a ∧ okF b) fun a b => gotR (mulF (num a) (num b)) :=
  .ev (fun a b => []) mixed (mkOrc_ok (l := L4) (x := []) trivial) Tryd.func40 (by decide) fun a b h => by
    refine ⟨?_⟩
    have e : evPure Tryd.prog (mkOrc L4 []) Tryd.f40 [] [cFx.enc a, cFx.enc b] =
      Tr.chk (decide (okF a)) (Tr.chk (decide (okF b)) (Tr.chk (decide (okT (mkx (mag (num a))) ∧ okT (mkx (mag (num b))))) (Tr.chk (decide (okT (mk4 (num (mkx (mag (num a))) * num (mkx (mag (num b))))).Y ∧ okT { h := (0 : Int), l := (9223372036854775808 : Int) })) (Tr.ite (over2 (num (mk4 (num (mkx (mag (num a))) * num (mkx (mag (num b))))).Y + num { h := (0 : Int), l := (9223372036854775808 : Int) })) (Tr.chk (decide (okT (mk4 (num (mkx (mag (num a))) * num (mkx (mag (num b))))).X ∧ okT { h := (0 : Int), l := (1 : Int) })) (Tr.chk (decide (ok4 { X := mkx (mod2 (num (mk4 (num (mkx (mag (num a))) * num (mkx (mag (num b))))).X + num { h := (0 : Int), l := (1 : Int) })), Y := mkx (mod2 (num (mk4 (num (mkx (mag (num a))) * num (mkx (mag (num b))))).Y + num { h := (0 : Int), l := (9223372036854775808 : Int) })) } ∧ ((64 : Int) = (64 : Int) ∨ (64 : Int) = (1 : Int)))) (Tr.chk (decide (ok4 (mk4 (num4 { X := mkx (mod2 (num (mk4 (num (mkx (mag (num a))) * num (mkx (mag (num b))))).X + num { h := (0 : Int), l := (1 : Int) })), Y := mkx (mod2 (num (mk4 (num (mkx (mag (num a))) * num (mkx (mag (num b))))).Y + num { h := (0 : Int), l := (9223372036854775808 : Int) })) } / if (64 : Int) = (64 : Int) then (18446744073709551616 : Int) else (2 : Int))))) (Tr.ret (PV.got (gotR (tell (num4 (mk4 (num4 { X := mkx (mod2 (num (mk4 (num (mkx (mag (num a))) * num (mkx (mag (num b))))).X + num { h := (0 : Int), l := (1 : Int) })), Y := mkx (mod2 (num (mk4 (num (mkx (mag (num a))) * num (mkx (mag (num b))))).Y + num { h := (0 : Int), l := (9223372036854775808 : Int) })) } / if (64 : Int) = (64 : Int) then (18446744073709551616 : Int) else (2 : Int)))) !decide (a.h < (0 : Int)) == decide (b.h < (0 : Int))))))))) (Tr.chk (decide (ok4 { X := (mk4 (num (mkx (mag (num a))) * num (mkx (mag (num b))))).X, Y := mkx (mod2 (num (mk4 (num (mkx (mag (num a))) * num (mkx (mag (num b))))).Y + num { h := (0 : Int), l := (9223372036854775808 : Int) })) } ∧ ((64 : Int) = (64 : Int) ∨ (64 : Int) = (1 : Int)))) (Tr.chk (decide (ok4 (mk4 (num4 { X := (mk4 (num (mkx (mag (num a))) * num (mkx (mag (num b))))).X, Y := mkx (mod2 (num (mk4 (num (mkx (mag (num a))) * num (mkx (mag (num b))))).Y + num { h := (0 : Int), l := (9223372036854775808 : Int) })) } / if (64 : Int) = (64 : Int) then (18446744073709551616 : Int) else (2 : Int))))) (Tr.ret (PV.got (gotR (tell (num4 (mk4 (num4 { X := (mk4 (num (mkx (mag (num a))) * num (mkx (mag (num b))))).X, Y := mkx (mod2 (num (mk4 (num (mkx (mag (num a))) * num (mkx (mag (num b))))).Y + num { h := (0 : Int), l := (9223372036854775808 : Int) })) } / if (64 : Int) = (64 : Int) then (18446744073709551616 : Int) else (2 : Int)))) !decide (a.h < (0 : Int)) == decide (b.h < (0 : Int)))))))))))) := by kernel_rfl
    rw [e]; clear e
    have hsg : (!decide (a.h < 0) == decide (b.h < 0)) = (neg (num a) != neg (num b)) := by rw [xor_is, neg_num a h.1.1, neg_num b h.2.1]
    have m1 := mag_two a h.1
    have m2 := mag_two b h.2
    simp only [Tr.holds, decide_eq_true_eq, decide_eq_false_iff_not, true_and, and_true, and_self, true_or, or_true, if_true, num_mk, num4_mk, mk4_X, mk4_Y, num4_st, num_lo, ok4_st, okT_mk_iff, ok4_mk_iff, okT_00, over2, mod2, hsg, Int.reduceEq, reduceIte, false_or, Int.zero_mul, Int.zero_add]
    have mp := mul_bd (n := 170141183460469231731687303715884105727) ⟨m1.1, by omega⟩ ⟨m2.1, by omega⟩
    simp only [Int.reduceMul] at mp
    unfold mulF
    generalize mag (num a) * mag (num b) = p at *
    obtain ⟨ha, hb⟩ := h
    have fin : ∀ n : Int, n = (p + 9223372036854775808) / 18446744073709551616 → PV.got (gotR (tell n (neg (num a) != neg (num b)))) = PV.got (gotR (tell ((p + 9223372036854775808) / 18446744073709551616) (neg (num a) != neg (num b)))) := fun n h => by rw [h]
    repeat' (first | assumption | exact ⟨⟨by decide⟩, ⟨by decide⟩⟩ | refine fin _ ?_ | refine ⟨?_, ?_⟩ | intro _)
    all_goals ((try simp only [decide_eq_true_eq, decide_eq_false_iff_not] at *); omega)
theorem k_r1_Div : C2 Tryd.prog TabI 87 cFx cFx PV.got (fun a b => okF a ∧ okF b) fun a b => gotR (divF (num a) (num b)) :=
  .ev (fun a b => []) mixed (mkOrc_ok (l := L4) (x := []) trivial) Tryd.func87 (by decide) fun a b h => by
    refine ⟨?_⟩
    have e : evPure Tryd.prog (mkOrc L4 []) Tryd.f87 [] [cFx.enc a, cFx.enc b] =
      Tr.ite (b.h == (0 : Int) && (b.l == (0 : Int) && true)) (Tr.ret (PV.got ({ h := (0 : Int), l := (0 : Int) }, (2 : Int)))) (Tr.chk (decide (okF a)) (Tr.chk (decide (ok4 { X := { h := (0 : Int), l := (0 : Int) }, Y := mkx (mag (num a)) } ∧ ((65 : Int) = (64 : Int) ∨ (65 : Int) = (65 : Int)))) (Tr.chk (decide (okF b)) (Tr.chk (decide (okT (mk4 ((num4 { X := { h := (0 : Int), l := (0 : Int) }, Y := mkx (mag (num a)) } * if (65 : Int) = (64 : Int) then (18446744073709551616 : Int) else (36893488147419103232 : Int)) % (115792089237316195423570985008687907853269984665640564039457584007913129639936 : Int))).Y ∧ okT (mkx (mag (num b))))) (Tr.ite (over2 (num (mk4 ((num4 { X := { h := (0 : Int), l := (0 : Int) }, Y := mkx (mag (num a)) } * if (65 : Int) = (64 : Int) then (18446744073709551616 : Int) else (36893488147419103232 : Int)) % (115792089237316195423570985008687907853269984665640564039457584007913129639936 : Int))).Y + num (mkx (mag (num b))))) (Tr.chk (decide (okT (mk4 ((num4 { X := { h := (0 : Int), l := (0 : Int) }, Y := mkx (mag (num a)) } * if (65 : Int) = (64 : Int) then (18446744073709551616 : Int) else (36893488147419103232 : Int)) % (115792089237316195423570985008687907853269984665640564039457584007913129639936 : Int))).X ∧ okT { h := (0 : Int), l := (1 : Int) })) (Tr.chk (decide (okT (mkx (mag (num b))) ∧ okT (mkx (mag (num b))))) (Tr.chk (decide (ok4 { X := mkx (mod2 (num (mk4 ((num4 { X := { h := (0 : Int), l := (0 : Int) }, Y := mkx (mag (num a)) } * if (65 : Int) = (64 : Int) then (18446744073709551616 : Int) else (36893488147419103232 : Int)) % (115792089237316195423570985008687907853269984665640564039457584007913129639936 : Int))).X + num { h := (0 : Int), l := (1 : Int) })), Y := mkx (mod2 (num (mk4 ((num4 { X := { h := (0 : Int), l := (0 : Int) }, Y := mkx (mag (num a)) } * if (65 : Int) = (64 : Int) then (18446744073709551616 : Int) else (36893488147419103232 : Int)) % (115792089237316195423570985008687907853269984665640564039457584007913129639936 : Int))).Y + num (mkx (mag (num b))))) } ∧ okT (mkx (mod2 (num (mkx (mag (num b))) + num (mkx (mag (num b)))))))) (Tr.chk (decide (ok4 (divS { X := mkx (mod2 (num (mk4 ((num4 { X := { h := (0 : Int), l := (0 : Int) }, Y := mkx (mag (num a)) } * if (65 : Int) = (64 : Int) then (18446744073709551616 : Int) else (36893488147419103232 : Int)) % (115792089237316195423570985008687907853269984665640564039457584007913129639936 : Int))).X + num { h := (0 : Int), l := (1 : Int) })), Y := mkx (mod2 (num (mk4 ((num4 { X := { h := (0 : Int), l := (0 : Int) }, Y := mkx (mag (num a)) } * if (65 : Int) = (64 : Int) then (18446744073709551616 : Int) else (36893488147419103232 : Int)) % (115792089237316195423570985008687907853269984665640564039457584007913129639936 : Int))).Y + num (mkx (mag (num b))))) } (mkx (mod2 (num (mkx (mag (num b))) + num (mkx (mag (num b))))))).fst)) (Tr.ret (PV.got (gotR (tell (num4 (divS { X := mkx (mod2 (num (mk4 ((num4 { X := { h := (0 : Int), l := (0 : Int) }, Y := mkx (mag (num a)) } * if (65 : Int) = (64 : Int) then (18446744073709551616 : Int) else (36893488147419103232 : Int)) % (115792089237316195423570985008687907853269984665640564039457584007913129639936 : Int))).X + num { h := (0 : Int), l := (1 : Int) })), Y := mkx (mod2 (num (mk4 ((num4 { X := { h := (0 : Int), l := (0 : Int) }, Y := mkx (mag (num a)) } * if (65 : Int) = (64 : Int) then (18446744073709551616 : Int) else (36893488147419103232 : Int)) % (115792089237316195423570985008687907853269984665640564039457584007913129639936 : Int))).Y + num (mkx (mag (num b))))) } (mkx (mod2 (num (mkx (mag (num b))) + num (mkx (mag (num b))))))).fst) !decide (a.h < (0 : Int)) == decide (b.h < (0 : Int)))))))))) (Tr.chk (decide (okT (mkx (mag (num b))) ∧ okT (mkx (mag (num b))))) (Tr.chk (decide (ok4 { X := (mk4 ((num4 { X := { h := (0 : Int), l := (0 : Int) }, Y := mkx (mag (num a)) } * if (65 : Int) = (64 : Int) then (18446744073709551616 : Int) else (36893488147419103232 : Int)) % (115792089237316195423570985008687907853269984665640564039457584007913129639936 : Int))).X, Y := mkx (mod2 (num (mk4 ((num4 { X := { h := (0 : Int), l := (0 : Int) }, Y := mkx (mag (num a)) } * if (65 : Int) = (64 : Int) then (18446744073709551616 : Int) else (36893488147419103232 : Int)) % (115792089237316195423570985008687907853269984665640564039457584007913129639936 : Int))).Y + num (mkx (mag (num b))))) } ∧ okT (mkx (mod2 (num (mkx (mag (num b))) + num (mkx (mag (num b)))))))) (Tr.chk (decide (ok4 (divS { X := (mk4 ((num4 { X := { h := (0 : Int), l := (0 : Int) }, Y := mkx (mag (num a)) } * if (65 : Int) = (64 : Int) then (18446744073709551616 : Int) else (36893488147419103232 : Int)) % (115792089237316195423570985008687907853269984665640564039457584007913129639936 : Int))).X, Y := mkx (mod2 (num (mk4 ((num4 { X := { h := (0 : Int), l := (0 : Int) }, Y := mkx (mag (num a)) } * if (65 : Int) = (64 : Int) then (18446744073709551616 : Int) else (36893488147419103232 : Int)) % (115792089237316195423570985008687907853269984665640564039457584007913129639936 : Int))).Y + num (mkx (mag (num b))))) } (mkx (mod2 (num (mkx (mag (num b))) + num (mkx (mag (num b))))))).fst)) (Tr.ret (PV.got (gotR (tell (num4 (divS { X := (mk4 ((num4 { X := { h := (0 : Int), l := (0 : Int) }, Y := mkx (mag (num a)) } * if (65 : Int) = (64 : Int) then (18446744073709551616 : Int) else (36893488147419103232 : Int)) % (115792089237316195423570985008687907853269984665640564039457584007913129639936 : Int))).X, Y := mkx (mod2 (num (mk4 ((num4 { X := { h := (0 : Int), l := (0 : Int) }, Y := mkx (mag (num a)) } * if (65 : Int) = (64 : Int) then (18446744073709551616 : Int) else (36893488147419103232 : Int)) % (115792089237316195423570985008687907853269984665640564039457584007913129639936 : Int))).Y + num (mkx (mag (num b))))) } (mkx (mod2 (num (mkx (mag (num b))) + num (mkx (mag (num b))))))).fst) !decide (a.h < (0 : Int)) == decide (b.h < (0 : Int)))))))))))))) := by kernel_rfl
    rw [e]; clear e
    have hsg : (!decide (a.h < 0) == decide (b.h < 0)) = (neg (num a) != neg (num b)) := by rw [xor_is, neg_num a h.1.1, neg_num b h.2.1]
    have m1 := mag_two a h.1
    have m2 := mag_two b h.2
    have zb : (b.h == 0 && (b.l == 0 && true)) = decide (num b = 0) := by
      have := h.2.1.h
      unfold num val2
      rw [Bool.and_true, Bool.eq_iff_iff, Bool.and_eq_true, beq_iff_eq, beq_iff_eq, decide_eq_true_iff]; omega
    rw [zb]
    have z2 : ¬ num b = 0 → 0 < mag (num b) := fun hz => by unfold mag; split <;> omega
    simp only [Tr.holds, decide_eq_true_eq, decide_eq_false_iff_not, true_and, and_true, and_self, true_or, or_true, if_true, num_mk, num4_mk, mk4_X, mk4_Y, num4_st, num_lo, ok4_st, okT_mk_iff, ok4_mk_iff, okT_00, over2, mod2, hsg, Int.reduceEq, reduceIte, false_or, Int.zero_mul, Int.zero_add]
    obtain ⟨ha, hb⟩ := h
    refine ⟨fun hz => by unfold divF; rw [if_pos hz]; rfl, fun hz => ?_⟩
    have z3 := z2 hz
    have hd : ∀ n : Int, 0 ≤ n ∧ n < 115792089237316195423570985008687907853269984665640564039457584007913129639936 → n = mag (num a) * 36893488147419103232 + mag (num b) → ∀ x : Fx, num x = 2 * mag (num b) → ∀ v : Vc, num4 v = n →
        ok4 (divS v x).1 ∧ PV.got (gotR (tell (num4 (divS v x).1) (neg (num a) != neg (num b)))) = PV.got (gotR (divF (num a) (num b))) := by
      intro n hn0 hn x hx v hv
      have hq : 0 ≤ n / num x ∧ n / num x ≤ n := ⟨Int.ediv_nonneg hn0.1 (by omega), Int.ediv_le_self _ hn0.1⟩
      have e : (divS v x).1 = mk4 (n / num x) := by unfold divS; rw [if_neg (by omega), hv]
      rw [e, num4_mk, ok4_mk_iff]
      refine ⟨by omega, ?_⟩
      unfold divF
      rw [if_neg hz, hn, hx]
    repeat' (first | assumption | exact ⟨⟨by decide⟩, ⟨by decide⟩⟩ | exact hd _ (by omega) rfl _ (by rw [num_mk]; omega) _ (by rw [num4_st, num_mk, num_mk]; omega) | refine ⟨?_, ?_⟩ | intro _)
    all_goals ((try simp only [decide_eq_true_eq, decide_eq_false_iff_not] at *); omega)
theorem k_r1_Sqrt : C1 Tryd.prog TabI 69 cFx PV.got okF fun a => gotR (sqrtF (num a)) :=
  .ev (fun a => []) mixed (mkOrc_ok (l := L4) (x := []) trivial) Tryd.func69 (by decide) fun a h => by
    refine ⟨?_⟩
    have e : evPure Tryd.prog (mkOrc L4 []) Tryd.f69 [] [cFx.enc a] =
      Tr.ite (decide (a.h < (0 : Int))) (Tr.ret (PV.got ({ h := (0 : Int), l := (0 : Int) }, (1 : Int)))) (Tr.chk (decide (okF a)) (Tr.chk (decide (ok4 { X := { h := (0 : Int), l := (0 : Int) }, Y := mkx (mag (num a)) } ∧ ((64 : Int) = (64 : Int) ∨ (64 : Int) = (65 : Int)))) (Tr.chk (decide (ok4 (mk4 ((num4 { X := { h := (0 : Int), l := (0 : Int) }, Y := mkx (mag (num a)) } * if (64 : Int) = (64 : Int) then (18446744073709551616 : Int) else (36893488147419103232 : Int)) % (115792089237316195423570985008687907853269984665640564039457584007913129639936 : Int))))) (Tr.chk (decide (ok4 { X := { h := (0 : Int), l := (0 : Int) }, Y := mkx (isq (num4 (mk4 ((num4 { X := { h := (0 : Int), l := (0 : Int) }, Y := mkx (mag (num a)) } * if (64 : Int) = (64 : Int) then (18446744073709551616 : Int) else (36893488147419103232 : Int)) % (115792089237316195423570985008687907853269984665640564039457584007913129639936 : Int))))) })) (Tr.ret (PV.got (gotR (tell (num4 { X := { h := (0 : Int), l := (0 : Int) }, Y := mkx (isq (num4 (mk4 ((num4 { X := { h := (0 : Int), l := (0 : Int) }, Y := mkx (mag (num a)) } * if (64 : Int) = (64 : Int) then (18446744073709551616 : Int) else (36893488147419103232 : Int)) % (115792089237316195423570985008687907853269984665640564039457584007913129639936 : Int))))) }) false)))))))) := by kernel_rfl
    rw [e]; clear e
    have hsg := neg_num a h.1
    have m1 := mag_two a h
    simp only [Tr.holds, decide_eq_true_eq, decide_eq_false_iff_not, true_and, and_true, and_self, true_or, or_true, if_true, num_mk, num4_mk, mk4_X, mk4_Y, num4_st, num_lo, ok4_st, okT_mk_iff, ok4_mk_iff, okT_00, over2, mod2, hsg, Int.reduceEq, reduceIte, false_or, Int.zero_mul, Int.zero_add]
    have q := isq_bd (mag (num a) * 18446744073709551616)
    have e : mag (num a) * 18446744073709551616 % 115792089237316195423570985008687907853269984665640564039457584007913129639936 = mag (num a) * 18446744073709551616 := by omega
    have ng : ∀ c, neg (num a) = c ↔ decide (num a < 0) = c := fun c => Iff.rfl
    simp only [ng, decide_eq_true_eq, decide_eq_false_iff_not]
    unfold sqrtF
    rw [e]
    refine ⟨fun hz => by rw [if_pos hz]; rfl, fun hz => ?_⟩
    rw [if_neg hz]
    repeat' (first | assumption | rfl | exact ⟨⟨by decide⟩, ⟨by decide⟩⟩ | refine ⟨?_, ?_⟩ | intro _)
    all_goals omega
theorem k_r1_Half : C1 Tryd.prog TabI 72 cFx cFx.enc okF fun a => mkx (halfF (num a)) :=
  .ev (fun a => []) mixed (mkOrc_ok (l := L4) (x := []) trivial) Tryd.func72 (by decide) fun a h => by
    refine ⟨?_⟩
    have e : evPure Tryd.prog (mkOrc L4 []) Tryd.f72 [] [cFx.enc a] =
      Tr.chk (decide (okF a)) (Tr.chk (decide (okT (mkx (mag (num a))) ∧ okT { h := (0 : Int), l := (1 : Int) })) (Tr.chk (decide (ok4 { X := { h := (0 : Int), l := (0 : Int) }, Y := mkx (mod2 (num (mkx (mag (num a))) + num { h := (0 : Int), l := (1 : Int) })) } ∧ ((1 : Int) = (64 : Int) ∨ (1 : Int) = (1 : Int)))) (Tr.chk (decide (ok4 (mk4 (num4 { X := { h := (0 : Int), l := (0 : Int) }, Y := mkx (mod2 (num (mkx (mag (num a))) + num { h := (0 : Int), l := (1 : Int) })) } / if (1 : Int) = (64 : Int) then (18446744073709551616 : Int) else (2 : Int))))) (Tr.ret (Cod.enc cFx (mkx (valF (tell (num4 (mk4 (num4 { X := { h := (0 : Int), l := (0 : Int) }, Y := mkx (mod2 (num (mkx (mag (num a))) + num { h := (0 : Int), l := (1 : Int) })) } / if (1 : Int) = (64 : Int) then (18446744073709551616 : Int) else (2 : Int)))) (decide (a.h < (0 : Int))))))))))) := by kernel_rfl
    rw [e]; clear e
    have hsg := neg_num a h.1
    have m1 := mag_two a h
    simp only [Tr.holds, decide_eq_true_eq, decide_eq_false_iff_not, true_and, and_true, and_self, true_or, or_true, if_true, num_mk, num4_mk, mk4_X, mk4_Y, num4_st, num_lo, ok4_st, okT_mk_iff, ok4_mk_iff, okT_00, over2, mod2, hsg, Int.reduceEq, reduceIte, false_or, Int.zero_mul, Int.zero_add]
    have fin : valF (tell ((mag (num a) + 1) % 340282366920938463463374607431768211456 / 2) (neg (num a))) = halfF (num a) := by
      unfold tell halfF neg mag
      have := h.2.h
      by_cases hz : num a < 0
      · rw [if_pos hz, if_pos hz, if_neg (by omega), decide_eq_true hz]; show -_ = _; omega
      · rw [if_neg hz, if_neg hz, if_neg (by omega), decide_eq_false hz]; show _ = _; simp only [valF, cond_false]; omega
    rw [fin]
    repeat' (first | assumption | rfl | exact ⟨⟨by decide⟩, ⟨by decide⟩⟩ | refine ⟨?_, ?_⟩ | intro _)
    all_goals omega
theorem k_r1_Cmp : C2 Tryd.prog TabI 55 cFx cFx (cI .i64).enc (fun a b => okF a ∧ okF b) fun a b => cmpS (num a) (num b) :=
  .ev (fun a b => []) mixed (mkOrc_ok (l := L4) (x := []) trivial) Tryd.func55 (by decide) fun a b h => by
    refine ⟨?_⟩
    have e : evPure Tryd.prog (mkOrc L4 []) Tryd.f55 [] [cFx.enc a, cFx.enc b] =
      Tr.ite (decide (a.h < b.h)) (Tr.ite true (Tr.ret (PV.raw (Value.int IntKind.i64 (-1 : Int)))) (Tr.ite (a.h == b.h && (a.l == b.l && true)) (Tr.ret (PV.raw (Value.int IntKind.i64 (0 : Int)))) (Tr.ret (PV.raw (Value.int IntKind.i64 (1 : Int)))))) (Tr.ite (a.h == b.h) (Tr.ite (bif false then true else bif true then decide (a.l < b.l) else false) (Tr.ret (PV.raw (Value.int IntKind.i64 (-1 : Int)))) (Tr.ite (a.h == b.h && (a.l == b.l && true)) (Tr.ret (PV.raw (Value.int IntKind.i64 (0 : Int)))) (Tr.ret (PV.raw (Value.int IntKind.i64 (1 : Int)))))) (Tr.ite false (Tr.ret (PV.raw (Value.int IntKind.i64 (-1 : Int)))) (Tr.ite (a.h == b.h && (a.l == b.l && true)) (Tr.ret (PV.raw (Value.int IntKind.i64 (0 : Int)))) (Tr.ret (PV.raw (Value.int IntKind.i64 (1 : Int))))))) := by kernel_rfl
    rw [e]; clear e
    have hsg := neg_num a h.1.1
    simp only [Tr.holds, decide_eq_true_eq, decide_eq_false_iff_not, true_and, and_true, and_self, true_or, or_true, if_true, num_mk, num4_mk, mk4_X, mk4_Y, num4_st, num_lo, ok4_st, okT_mk_iff, ok4_mk_iff, okT_00, over2, mod2, hsg, Int.reduceEq, reduceIte, false_or, Int.zero_mul, Int.zero_add]
    have l1 := h.1.1.h
    have l2 := h.2.1.h
    unfold cmpS num val2
    simp only [Bool.and_true]
    have bl : ∀ x y : Int, (x == y) = decide (x = y) := fun x y => rfl
    simp only [bl, Bool.and_eq_true, Bool.and_eq_false_iff, decide_eq_true_eq, decide_eq_false_iff_not, cond_false, cond_true, true_implies]
    have goal : ∀ r : Int, r = (if a.h * 18446744073709551616 + a.l < b.h * 18446744073709551616 + b.l then -1 else if b.h * 18446744073709551616 + b.l < a.h * 18446744073709551616 + a.l then 1 else 0) → PV.raw (Value.int IntKind.i64 r) = (cI IntKind.i64).enc (if a.h * 18446744073709551616 + a.l < b.h * 18446744073709551616 + b.l then -1 else if b.h * 18446744073709551616 + b.l < a.h * 18446744073709551616 + a.l then 1 else 0) := fun r hr => by rw [hr]; rfl
    repeat' (first | refine ⟨?_, ?_⟩ | intro _)
    all_goals first | contradiction | (refine goal _ ?_; split <;> (try split) <;> omega)
def L5r : List (Ent Tryd.prog tid TabI) := e2 k_r1_Mul Tryd.func40 :: e2 k_r1_Div Tryd.func87 :: e1 k_r1_Sqrt Tryd.func69 :: e1 k_r1_Half Tryd.func72 :: e2 k_r1_Cmp Tryd.func55 :: L4
end Go.Proofs.YtpbklojdmkpkcaaDoor
