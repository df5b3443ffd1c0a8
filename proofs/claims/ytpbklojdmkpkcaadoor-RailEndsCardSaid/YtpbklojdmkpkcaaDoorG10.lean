import Derived.Test.YtpbklojdmkpkcaaDoorG9
/- The reference's numbers: products, quotients, roots, halves; as contracts. -/
namespace Go.Proofs.YtpbklojdmkpkcaaDoor
open Go Go.RowKit
set_option linter.unusedVariables false
set_option linter.unusedSimpArgs false
set_option maxRecDepth 100000
theorem mk4_X (n : Int) : (mk4 n).X = mkx (n / 340282366920938463463374607431768211456) := rfl
theorem mk4_Y (n : Int) : (mk4 n).Y = mkx (n % 340282366920938463463374607431768211456) := rfl
theorem num4_st (x y : Fx) : num4 ⟨x, y⟩ = num x * 340282366920938463463374607431768211456 + num y := rfl
theorem ok4_st (x y : Fx) : ok4 ⟨x, y⟩ ↔ okT x ∧ okT y := Iff.rfl
theorem okT_mk_iff (n : Int) : okT (mkx n) ↔ 0 ≤ n ∧ n < 340282366920938463463374607431768211456 := ⟨fun h => by have := num_T _ h; rwa [num_mk] at this, okT_mk n⟩
theorem ok4_mk_iff (n : Int) : ok4 (mk4 n) ↔ 0 ≤ n ∧ n < 115792089237316195423570985008687907853269984665640564039457584007913129639936 := ⟨fun h => by have := num4_bd _ h; rwa [num4_mk] at this, ok4_mk n⟩
theorem okT_00 : okT ⟨0, 0⟩ ↔ True := iff_true_intro ⟨(inferInstance : U 0), (inferInstance : U 0)⟩
theorem neg_num (x : Fx) (h : U x.l) : decide (x.h < 0) = neg (num x) := by
  have := h.h
  unfold neg num val2
  rw [decide_eq_decide]; omega
theorem mag_two (x : Fx) (h : okF x) : 0 ≤ mag (num x) ∧ mag (num x) < 170141183460469231731687303715884105728 := by
  haveI := h.2
  exact ⟨mag_nn _, mag_lt _⟩
theorem sqL_bd (n : Int) : ∀ (k : Nat) (s : Int), s ≤ sqL n k s ∧ sqL n k s < s + 2 ^ k
  | 0, s => by simp only [sqL]; omega
  | k + 1, s => by
    have i1 := sqL_bd n k (s + 2 ^ k)
    have i2 := sqL_bd n k s
    have hp := two_pos k
    simp only [sqL]
    rw [Int.pow_succ]
    split <;> omega
theorem isq_bd (n : Int) : 0 ≤ isq n ∧ isq n < 340282366920938463463374607431768211456 := by
  have := sqL_bd n 128 0
  unfold isq
  rw [show (2 : Int) ^ 128 = 340282366920938463463374607431768211456 from by decide] at this
  omega
theorem xor_is (a b : Bool) : (!a == b) = (a != b) := by cases a <;> cases b <;> rfl
def divF (a b : Int) : Except Int Int := if b = 0 then .error 2 else tell ((mag a * 36893488147419103232 + mag b) / (2 * mag b)) (neg a != neg b)
def sqrtF (a : Int) : Except Int Int := if a < 0 then .error 1 else tell (isq (mag a * 18446744073709551616)) false
def halfF (a : Int) : Int := if a < 0 then -((1 - a) / 2) else (a + 1) / 2
theorem k_r1_Mul : C2 Tryd.prog TabI 40 cFx cFx PV.got (fun a b => okF a ∧ okF b) fun a b => gotR (mulF (num a) (num b)) :=
  .ev (fun a b => []) mixed (mkOrc_ok (l := L4) (x := []) trivial) Tryd.func40 (by decide) fun a b h => by
    refine ⟨?_⟩
    have e : evPure Tryd.prog (mkOrc L4 []) Tryd.f40 [] [cFx.enc a, cFx.enc b] =
      Tr.chk (decide (okF a)) (Tr.chk (decide (okF b)) (Tr.chk (decide (okT (mkx (mag (num a))) ∧ okT (mkx (mag (num b))))) (Tr.chk (decide (okT (mk4 (num (mkx (mag (num a))) * num (mkx (mag (num b))))).Y ∧ okT { h := (0 : Int), l := (9223372036854775808 : Int) })) (Tr.ite (over2 (num (mk4 (num (mkx (mag (num a))) * num (mkx (mag (num b))))).Y + num { h := (0 : Int), l := (9223372036854775808 : Int) })) (Tr.chk (decide (okT (mk4 (num (mkx (mag (num a))) * num (mkx (mag (num b))))).X ∧ okT { h := (0 : Int), l := (1 : Int) })) (Tr.chk (decide (ok4 { X := mkx (mod2 (num (mk4 (num (mkx (mag (num a))) * num (mkx (mag (num b))))).X + num { h := (0 : Int), l := (1 : Int) })), Y := mkx (mod2 (num (mk4 (num (mkx (mag (num a))) * num (mkx (mag (num b))))).Y + num { h := (0 : Int), l := (9223372036854775808 : Int) })) } ∧ ((64 : Int) = (64 : Int) ∨ (64 : Int) = (1 : Int)))) (Tr.chk (decide (ok4 (mk4 (num4 { X := mkx (mod2 (num (mk4 (num (mkx (mag (num a))) * num (mkx (mag (num b))))).X + num { h := (0 : Int), l := (1 : Int) })), Y := mkx (mod2 (num (mk4 (num (mkx (mag (num a))) * num (mkx (mag (num b))))).Y + num { h := (0 : Int), l := (9223372036854775808 : Int) })) } / if (64 : Int) = (64 : Int) then (18446744073709551616 : Int) else (2 : Int))))) (Tr.ret (PV.got (gotR (tell (num4 (mk4 (num4 { X := mkx (mod2 (num (mk4 (num (mkx (mag (num a))) * num (mkx (mag (num b))))).X + num { h := (0 : Int), l := (1 : Int) })), Y := mkx (mod2 (num (mk4 (num (mkx (mag (num a))) * num (mkx (mag (num b))))).Y + num { h := (0 : Int), l := (9223372036854775808 : Int) })) } / if (64 : Int) = (64 : Int) then (18446744073709551616 : Int) else (2 : Int)))) !decide (a.h < (0 : Int)) == decide (b.h < (0 : Int))))))))) (Tr.chk (decide (ok4 { X := (mk4 (num (mkx (mag (num a))) * num (mkx (mag (num b))))).X, Y := mkx (mod2 (num (mk4 (num (mkx (mag (num a))) * num (mkx (mag (num b))))).Y + num { h := (0 : Int), l := (9223372036854775808 : Int) })) } ∧ ((64 : Int) = (64 : Int) ∨ (64 : Int) = (1 : Int)))) (Tr.chk (decide (ok4 (mk4 (num4 { X := (mk4 (num (mkx (mag (num a))) * num (mkx (mag (num b))))).X, Y := mkx (mod2 (num (mk4 (num (mkx (mag (num a))) * num (mkx (mag (num b))))).Y + num { h := (0 : Int), l := (9223372036854775808 : Int) })) } / if (64 : Int) = (64 : Int) then (18446744073709551616 : Int) else (2 : Int))))) (Tr.ret (PV.got (gotR (tell (num4 (mk4 (num4 { X := (mk4 (num (mkx (mag (num a))) * num (mkx (mag (num b))))).X, Y := mkx (mod2 (num (mk4 (num (mkx (mag (num a))) * num (mkx (mag (num b))))).Y + num { h := (0 : Int), l := (9223372036854775808 : Int) })) } / if (64 : Int) = (64 : Int) then (18446744073709551616 : Int) else (2 : Int)))) !decide (a.h < (0 : Int)) == decide (b.h < (0 : Int)))))))))))) := by kernel_rfl
    rw [e]; clear e
    have hsg : (!decide (a.h < 0) == decide (b.h < 0)) = (neg (num a) != neg (num b)) := by rw [xor_is, neg_num a h.1.1, neg_num b h.2.1]
    have m1 := mag_two a h.1
    have m2 := mag_two b h.2
    simp only [Tr.holds, decide_eq_true_eq, decide_eq_false_iff_not, true_and, and_true, and_self, true_or, or_true, if_true, num_mk, num4_mk, mk4_X, mk4_Y, num4_st, num_lo, ok4_st, okT_mk_iff, ok4_mk_iff, okT_00, over2, mod2, hsg, Int.reduceEq, reduceIte, false_or, Int.zero_mul, Int.zero_add]
    have mp := mul_bd (n := 170141183460469231731687303715884105727) ⟨m1.1, by omega⟩ ⟨m2.1, by omega⟩
    simp only [Int.reduceMul] at mp
    unfold mulF
    generalize mag (num a) * mag (num b) = p at *
    obtain ⟨ha, hb⟩ := h
    have fin : ∀ n : Int, n = (p + 9223372036854775808) / 18446744073709551616 → PV.got (gotR (tell n (neg (num a) != neg (num b)))) = PV.got (gotR (tell ((p + 9223372036854775808) / 18446744073709551616) (neg (num a) != neg (num b)))) := fun n h => by rw [h]
    repeat' (first | assumption | exact ⟨⟨by decide⟩, ⟨by decide⟩⟩ | refine fin _ ?_ | refine ⟨?_, ?_⟩ | intro _)
    all_goals ((try simp only [decide_eq_true_eq, decide_eq_false_iff_not] at *); omega)
theorem k_r1_Div : C2 Tryd.prog TabI 87 cFx cFx PV.got (fun a b => okF a ∧ okF b) fun a b => gotR (divF (num a) (num b)) :=
  .ev (fun a b => []) mixed (mkOrc_ok (l := L4) (x := []) trivial) Tryd.func87 (by decide) fun a b h => by
    refine ⟨?_⟩
    have e : evPure Tryd.prog (mkOrc L4 []) Tryd.f87 [] [cFx.enc a, cFx.enc b] =
      Tr.ite (b.h == (0 : Int) && (b.l == (0 : Int) && true)) (Tr.ret (PV.got ({ h := (0 : Int), l := (0 : Int) }, (2 : Int)))) (Tr.chk (decide (okF a)) (Tr.chk (decide (ok4 { X := { h := (0 : Int), l := (0 : Int) }, Y := mkx (mag (num a)) } ∧ ((65 : Int) = (64 : Int) ∨ (65 : Int) = (65 : Int)))) (Tr.chk (decide (okF b)) (Tr.chk (decide (okT (mk4 ((num4 { X := { h := (0 : Int), l := (0 : Int) }, Y := mkx (mag (num a)) } * if (65 : Int) = (64 : Int) then (18446744073709551616 : Int) else (36893488147419103232 : Int)) % (115792089237316195423570985008687907853269984665640564039457584007913129639936 : Int))).Y ∧ okT (mkx (mag (num b))))) (Tr.ite (over2 (num (mk4 ((num4 { X := { h := (0 : Int), l := (0 : Int) }, Y := mkx (mag (num a)) } * if (65 : Int) = (64 : Int) then (18446744073709551616 : Int) else (36893488147419103232 : Int)) % (115792089237316195423570985008687907853269984665640564039457584007913129639936 : Int))).Y + num (mkx (mag (num b))))) (Tr.chk (decide (okT (mk4 ((num4 { X := { h := (0 : Int), l := (0 : Int) }, Y := mkx (mag (num a)) } * if (65 : Int) = (64 : Int) then (18446744073709551616 : Int) else (36893488147419103232 : Int)) % (115792089237316195423570985008687907853269984665640564039457584007913129639936 : Int))).X ∧ okT { h := (0 : Int), l := (1 : Int) })) (Tr.chk (decide (okT (mkx (mag (num b))) ∧ okT (mkx (mag (num b))))) (Tr.chk (decide (ok4 { X := mkx (mod2 (num (mk4 ((num4 { X := { h := (0 : Int), l := (0 : Int) }, Y := mkx (mag (num a)) } * if (65 : Int) = (64 : Int) then (18446744073709551616 : Int) else (36893488147419103232 : Int)) % (115792089237316195423570985008687907853269984665640564039457584007913129639936 : Int))).X + num { h := (0 : Int), l := (1 : Int) })), Y := mkx (mod2 (num (mk4 ((num4 { X := { h := (0 : Int), l := (0 : Int) }, Y := mkx (mag (num a)) } * if (65 : Int) = (64 : Int) then (18446744073709551616 : Int) else (36893488147419103232 : Int)) % (115792089237316195423570985008687907853269984665640564039457584007913129639936 : Int))).Y + num (mkx (mag (num b))))) } ∧ okT (mkx (mod2 (num (mkx (mag (num b))) + num (mkx (mag (num b)))))))) (Tr.chk (decide (ok4 (divS { X := mkx (mod2 (num (mk4 ((num4 { X := { h := (0 : Int), l := (0 : Int) }, Y := mkx (mag (num a)) } * if (65 : Int) = (64 : Int) then (18446744073709551616 : Int) else (36893488147419103232 : Int)) % (115792089237316195423570985008687907853269984665640564039457584007913129639936 : Int))).X + num { h := (0 : Int), l := (1 : Int) })), Y := mkx (mod2 (num (mk4 ((num4 { X := { h := (0 : Int), l := (0 : Int) }, Y := mkx (mag (num a)) } * if (65 : Int) = (64 : Int) then (18446744073709551616 : Int) else (36893488147419103232 : Int)) % (115792089237316195423570985008687907853269984665640564039457584007913129639936 : Int))).Y + num (mkx (mag (num b))))) } (mkx (mod2 (num (mkx (mag (num b))) + num (mkx (mag (num b))))))).fst)) (Tr.ret (PV.got (gotR (tell (num4 (divS { X := mkx (mod2 (num (mk4 ((num4 { X := { h := (0 : Int), l := (0 : Int) }, Y := mkx (mag (num a)) } * if (65 : Int) = (64 : Int) then (18446744073709551616 : Int) else (36893488147419103232 : Int)) % (115792089237316195423570985008687907853269984665640564039457584007913129639936 : Int))).X + num { h := (0 : Int), l := (1 : Int) })), Y := mkx (mod2 (num (mk4 ((num4 { X := { h := (0 : Int), l := (0 : Int) }, Y := mkx (mag (num a)) } * if (65 : Int) = (64 : Int) then (18446744073709551616 : Int) else (36893488147419103232 : Int)) % (115792089237316195423570985008687907853269984665640564039457584007913129639936 : Int))).Y + num (mkx (mag (num b))))) } (mkx (mod2 (num (mkx (mag (num b))) + num (mkx (mag (num b))))))).fst) !decide (a.h < (0 : Int)) == decide (b.h < (0 : Int)))))))))) (Tr.chk (decide (okT (mkx (mag (num b))) ∧ okT (mkx (mag (num b))))) (Tr.chk (decide (ok4 { X := (mk4 ((num4 { X := { h := (0 : Int), l := (0 : Int) }, Y := mkx (mag (num a)) } * if (65 : Int) = (64 : Int) then (18446744073709551616 : Int) else (36893488147419103232 : Int)) % (115792089237316195423570985008687907853269984665640564039457584007913129639936 : Int))).X, Y := mkx (mod2 (num (mk4 ((num4 { X := { h := (0 : Int), l := (0 : Int) }, Y := mkx (mag (num a)) } * if (65 : Int) = (64 : Int) then (18446744073709551616 : Int) else (36893488147419103232 : Int)) % (115792089237316195423570985008687907853269984665640564039457584007913129639936 : Int))).Y + num (mkx (mag (num b))))) } ∧ okT (mkx (mod2 (num (mkx (mag (num b))) + num (mkx (mag (num b)))))))) (Tr.chk (decide (ok4 (divS { X := (mk4 ((num4 { X := { h := (0 : Int), l := (0 : Int) }, Y := mkx (mag (num a)) } * if (65 : Int) = (64 : Int) then (18446744073709551616 : Int) else (36893488147419103232 : Int)) % (115792089237316195423570985008687907853269984665640564039457584007913129639936 : Int))).X, Y := mkx (mod2 (num (mk4 ((num4 { X := { h := (0 : Int), l := (0 : Int) }, Y := mkx (mag (num a)) } * if (65 : Int) = (64 : Int) then (18446744073709551616 : Int) else (36893488147419103232 : Int)) % (115792089237316195423570985008687907853269984665640564039457584007913129639936 : Int))).Y + num (mkx (mag (num b))))) } (mkx (mod2 (num (mkx (mag (num b))) + num (mkx (mag (num b))))))).fst)) (Tr.ret (PV.got (gotR (tell (num4 (divS { X := (mk4 ((num4 { X := { h := (0 : Int), l := (0 : Int) }, Y := mkx (mag (num a)) } * if (65 : Int) = (64 : Int) then (18446744073709551616 : Int) else (36893488147419103232 : Int)) % (115792089237316195423570985008687907853269984665640564039457584007913129639936 : Int))).X, Y := mkx (mod2 (num (mk4 ((num4 { X := { h := (0 : Int), l := (0 : Int) }, Y := mkx (mag (num a)) } * if (65 : Int) = (64 : Int) then (18446744073709551616 : Int) else (36893488147419103232 : Int)) % (115792089237316195423570985008687907853269984665640564039457584007913129639936 : Int))).Y + num (mkx (mag (num b))))) } (mkx (mod2 (num (mkx (mag (num b))) + num (mkx (mag (num b))))))).fst) !decide (a.h < (0 : Int)) == decide (b.h < (0 : Int)))))))))))))) := by kernel_rfl
    rw [e]; clear e
    have hsg : (!decide (a.h < 0) == decide (b.h < 0)) = (neg (num a) != neg (num b)) := by rw [xor_is, neg_num a h.1.1, neg_num b h.2.1]
    have m1 := mag_two a h.1
    have m2 := mag_two b h.2
    have zb : (b.h == 0 && (b.l == 0 && true)) = decide (num b = 0) := by
      have := h.2.1.h
      unfold num val2
      rw [Bool.and_true, Bool.eq_iff_iff, Bool.and_eq_true, beq_iff_eq, beq_iff_eq, decide_eq_true_iff]; omega
    rw [zb]
    have z2 : ¬ num b = 0 → 0 < mag (num b) := fun hz => by unfold mag; split <;> omega
    simp only [Tr.holds, decide_eq_true_eq, decide_eq_false_iff_not, true_and, and_true, and_self, true_or, or_true, if_true, num_mk, num4_mk, mk4_X, mk4_Y, num4_st, num_lo, ok4_st, okT_mk_iff, ok4_mk_iff, okT_00, over2, mod2, hsg, Int.reduceEq, reduceIte, false_or, Int.zero_mul, Int.zero_add]
    obtain ⟨ha, hb⟩ := h
    refine ⟨fun hz => by unfold divF; rw [if_pos hz]; rfl, fun hz => ?_⟩
    have z3 := z2 hz
    have hd : ∀ n : Int, 0 ≤ n ∧ n < 115792089237316195423570985008687907853269984665640564039457584007913129639936 → n = mag (num a) * 36893488147419103232 + mag (num b) → ∀ x : Fx, num x = 2 * mag (num b) → ∀ v : Vc, num4 v = n →
        ok4 (divS v x).1 ∧ PV.got (gotR (tell (num4 (divS v x).1) (neg (num a) != neg (num b)))) = PV.got (gotR (divF (num a) (num b))) := by
      intro n hn0 hn x hx v hv
      have hq : 0 ≤ n / num x ∧ n / num x ≤ n := ⟨Int.ediv_nonneg hn0.1 (by omega), Int.ediv_le_self _ hn0.1⟩
      have e : (divS v x).1 = mk4 (n / num x) := by unfold divS; rw [if_neg (by omega), hv]
      rw [e, num4_mk, ok4_mk_iff]
      refine ⟨by omega, ?_⟩
      unfold divF
      rw [if_neg hz, hn, hx]
    repeat' (first | assumption | exact ⟨⟨by decide⟩, ⟨by decide⟩⟩ | exact hd _ (by omega) rfl _ (by rw [num_mk]; omega) _ (by rw [num4_st, num_mk, num_mk]; omega) | refine ⟨?_, ?_⟩ | intro _)
    all_goals ((try simp only [decide_eq_true_eq, decide_eq_false_iff_not] at *); omega)
theorem k_r1_Sqrt : C1 Tryd.prog TabI 69 cFx PV.got okF fun a => gotR (sqrtF (num a)) :=
  .ev (fun a => []) mixed (mkOrc_ok (l := L4) (x := []) trivial) Tryd.func69 (by decide) fun a h => by
    refine ⟨?_⟩
    have e : evPure Tryd.prog (mkOrc L4 []) Tryd.f69 [] [cFx.enc a] =
      Tr.ite (decide (a.h < (0 : Int))) (Tr.ret (PV.got ({ h := (0 : Int), l := (0 : Int) }, (1 : Int)))) (Tr.chk (decide (okF a)) (Tr.chk (decide (ok4 { X := { h := (0 : Int), l := (0 : Int) }, Y := mkx (mag (num a)) } ∧ ((64 : Int) = (64 : Int) ∨ (64 : Int) = (65 : Int)))) (Tr.chk (decide (ok4 (mk4 ((num4 { X := { h := (0 : Int), l := (0 : Int) }, Y := mkx (mag (num a)) } * if (64 : Int) = (64 : Int) then (18446744073709551616 : Int) else (36893488147419103232 : Int)) % (115792089237316195423570985008687907853269984665640564039457584007913129639936 : Int))))) (Tr.chk (decide (ok4 { X := { h := (0 : Int), l := (0 : Int) }, Y := mkx (isq (num4 (mk4 ((num4 { X := { h := (0 : Int), l := (0 : Int) }, Y := mkx (mag (num a)) } * if (64 : Int) = (64 : Int) then (18446744073709551616 : Int) else (36893488147419103232 : Int)) % (115792089237316195423570985008687907853269984665640564039457584007913129639936 : Int))))) })) (Tr.ret (PV.got (gotR (tell (num4 { X := { h := (0 : Int), l := (0 : Int) }, Y := mkx (isq (num4 (mk4 ((num4 { X := { h := (0 : Int), l := (0 : Int) }, Y := mkx (mag (num a)) } * if (64 : Int) = (64 : Int) then (18446744073709551616 : Int) else (36893488147419103232 : Int)) % (115792089237316195423570985008687907853269984665640564039457584007913129639936 : Int))))) }) false)))))))) := by kernel_rfl
    rw [e]; clear e
    have hsg := neg_num a h.1
    have m1 := mag_two a h
    simp only [Tr.holds, decide_eq_true_eq, decide_eq_false_iff_not, true_and, and_true, and_self, true_or, or_true, if_true, num_mk, num4_mk, mk4_X, mk4_Y, num4_st, num_lo, ok4_st, okT_mk_iff, ok4_mk_iff, okT_00, over2, mod2, hsg, Int.reduceEq, reduceIte, false_or, Int.zero_mul, Int.zero_add]
    have q := isq_bd (mag (num a) * 18446744073709551616)
    have e : mag (num a) * 18446744073709551616 % 115792089237316195423570985008687907853269984665640564039457584007913129639936 = mag (num a) * 18446744073709551616 := by omega
    have ng : ∀ c, neg (num a) = c ↔ decide (num a < 0) = c := fun c => Iff.rfl
    simp only [ng, decide_eq_true_eq, decide_eq_false_iff_not]
    unfold sqrtF
    rw [e]
    refine ⟨fun hz => by rw [if_pos hz]; rfl, fun hz => ?_⟩
    rw [if_neg hz]
    repeat' (first | assumption | rfl | exact ⟨⟨by decide⟩, ⟨by decide⟩⟩ | refine ⟨?_, ?_⟩ | intro _)
    all_goals omega
theorem k_r1_Half : C1 Tryd.prog TabI 72 cFx cFx.enc okF fun a => mkx (halfF (num a)) :=
  .ev (fun a => []) mixed (mkOrc_ok (l := L4) (x := []) trivial) Tryd.func72 (by decide) fun a h => by
    refine ⟨?_⟩
    have e : evPure Tryd.prog (mkOrc L4 []) Tryd.f72 [] [cFx.enc a] =
      Tr.chk (decide (okF a)) (Tr.chk (decide (okT (mkx (mag (num a))) ∧ okT { h := (0 : Int), l := (1 : Int) })) (Tr.chk (decide (ok4 { X := { h := (0 : Int), l := (0 : Int) }, Y := mkx (mod2 (num (mkx (mag (num a))) + num { h := (0 : Int), l := (1 : Int) })) } ∧ ((1 : Int) = (64 : Int) ∨ (1 : Int) = (1 : Int)))) (Tr.chk (decide (ok4 (mk4 (num4 { X := { h := (0 : Int), l := (0 : Int) }, Y := mkx (mod2 (num (mkx (mag (num a))) + num { h := (0 : Int), l := (1 : Int) })) } / if (1 : Int) = (64 : Int) then (18446744073709551616 : Int) else (2 : Int))))) (Tr.ret (Cod.enc cFx (mkx (valF (tell (num4 (mk4 (num4 { X := { h := (0 : Int), l := (0 : Int) }, Y := mkx (mod2 (num (mkx (mag (num a))) + num { h := (0 : Int), l := (1 : Int) })) } / if (1 : Int) = (64 : Int) then (18446744073709551616 : Int) else (2 : Int)))) (decide (a.h < (0 : Int))))))))))) := by kernel_rfl
    rw [e]; clear e
    have hsg := neg_num a h.1
    have m1 := mag_two a h
    simp only [Tr.holds, decide_eq_true_eq, decide_eq_false_iff_not, true_and, and_true, and_self, true_or, or_true, if_true, num_mk, num4_mk, mk4_X, mk4_Y, num4_st, num_lo, ok4_st, okT_mk_iff, ok4_mk_iff, okT_00, over2, mod2, hsg, Int.reduceEq, reduceIte, false_or, Int.zero_mul, Int.zero_add]
    have fin : valF (tell ((mag (num a) + 1) % 340282366920938463463374607431768211456 / 2) (neg (num a))) = halfF (num a) := by
      unfold tell halfF neg mag
      have := h.2.h
      by_cases hz : num a < 0
      · rw [if_pos hz, if_pos hz, if_neg (by omega), decide_eq_true hz]; show -_ = _; omega
      · rw [if_neg hz, if_neg hz, if_neg (by omega), decide_eq_false hz]; show _ = _; simp only [valF, cond_false]; omega
    rw [fin]
    repeat' (first | assumption | rfl | exact ⟨⟨by decide⟩, ⟨by decide⟩⟩ | refine ⟨?_, ?_⟩ | intro _)
    all_goals omega
theorem k_r1_Cmp : C2 Tryd.prog TabI 55 cFx cFx (cI .i64).enc (fun a b => okF a ∧ okF b) fun a b => cmpS (num a) (num b) :=
  .ev (fun a b => []) mixed (mkOrc_ok (l := L4) (x := []) trivial) Tryd.func55 (by decide) fun a b h => by
    refine ⟨?_⟩
    have e : evPure Tryd.prog (mkOrc L4 []) Tryd.f55 [] [cFx.enc a, cFx.enc b] =
      Tr.ite (decide (a.h < b.h)) (Tr.ite true (Tr.ret (PV.raw (Value.int IntKind.i64 (-1 : Int)))) (Tr.ite (a.h == b.h && (a.l == b.l && true)) (Tr.ret (PV.raw (Value.int IntKind.i64 (0 : Int)))) (Tr.ret (PV.raw (Value.int IntKind.i64 (1 : Int)))))) (Tr.ite (a.h == b.h) (Tr.ite (bif false then true else bif true then decide (a.l < b.l) else false) (Tr.ret (PV.raw (Value.int IntKind.i64 (-1 : Int)))) (Tr.ite (a.h == b.h && (a.l == b.l && true)) (Tr.ret (PV.raw (Value.int IntKind.i64 (0 : Int)))) (Tr.ret (PV.raw (Value.int IntKind.i64 (1 : Int)))))) (Tr.ite false (Tr.ret (PV.raw (Value.int IntKind.i64 (-1 : Int)))) (Tr.ite (a.h == b.h && (a.l == b.l && true)) (Tr.ret (PV.raw (Value.int IntKind.i64 (0 : Int)))) (Tr.ret (PV.raw (Value.int IntKind.i64 (1 : Int))))))) := by kernel_rfl
    rw [e]; clear e
    have hsg := neg_num a h.1.1
    simp only [Tr.holds, decide_eq_true_eq, decide_eq_false_iff_not, true_and, and_true, and_self, true_or, or_true, if_true, num_mk, num4_mk, mk4_X, mk4_Y, num4_st, num_lo, ok4_st, okT_mk_iff, ok4_mk_iff, okT_00, over2, mod2, hsg, Int.reduceEq, reduceIte, false_or, Int.zero_mul, Int.zero_add]
    have l1 := h.1.1.h
    have l2 := h.2.1.h
    unfold cmpS num val2
    simp only [Bool.and_true]
    have bl : ∀ x y : Int, (x == y) = decide (x = y) := fun x y => rfl
    simp only [bl, Bool.and_eq_true, Bool.and_eq_false_iff, decide_eq_true_eq, decide_eq_false_iff_not, cond_false, cond_true, true_implies]
    have goal : ∀ r : Int, r = (if a.h * 18446744073709551616 + a.l < b.h * 18446744073709551616 + b.l then -1 else if b.h * 18446744073709551616 + b.l < a.h * 18446744073709551616 + a.l then 1 else 0) → PV.raw (Value.int IntKind.i64 r) = (cI IntKind.i64).enc (if a.h * 18446744073709551616 + a.l < b.h * 18446744073709551616 + b.l then -1 else if b.h * 18446744073709551616 + b.l < a.h * 18446744073709551616 + a.l then 1 else 0) := fun r hr => by rw [hr]; rfl
    repeat' (first | refine ⟨?_, ?_⟩ | intro _)
    all_goals first | contradiction | (refine goal _ ?_; split <;> (try split) <;> omega)
def L5r : List (Ent Tryd.prog tid TabI) := e2 k_r1_Mul Tryd.func40 :: e2 k_r1_Div Tryd.func87 :: e1 k_r1_Sqrt Tryd.func69 :: e1 k_r1_Half Tryd.func72 :: e2 k_r1_Cmp Tryd.func55 :: L4
end Go.Proofs.YtpbklojdmkpkcaaDoor
/- The reference's ways: lengths, turns; as contracts. -/
namespace Go.Proofs.YtpbklojdmkpkcaaDoor
open Go Go.RowKit
set_option linter.unusedVariables false
set_option linter.unusedSimpArgs false
set_option maxRecDepth 100000
def decGot : PV → Option (Fx × Int)
  | .agg [.raw (.int .i64 h), .raw (.int .u64 l), .raw (.int .i64 e)] => some (⟨h, l⟩, e)
  | _ => none
def cGot : Cod (Fx × Int) := ⟨PV.got, decGot, fun _ => rfl, fun v a h => by
  unfold decGot at h; split at h
  · cases h; rfl
  · cases h⟩
/-- Two numbers, or the first error. -/
def bothS (x y : Fx × Int) : Vc × Int := if x.2 ≠ 0 then (⟨⟨0, 0⟩, ⟨0, 0⟩⟩, x.2) else if y.2 ≠ 0 then (⟨⟨0, 0⟩, ⟨0, 0⟩⟩, y.2) else (⟨x.1, y.1⟩, 0)
theorem bothS_is (x y : Except Int Int) [hx : E x] [hy : E y] : bothS (mkx (valF x), errF x) (mkx (valF y), errF y) = wayR (both x y) := by
  cases x with
  | ok a => cases y with
    | ok b => rfl
    | error e =>
      have t : ((mkx (valF (Except.error e)), errF (Except.error e)) : Fx × Int).2 ≠ 0 := hy.h e rfl
      unfold bothS
      rw [if_neg (by simp [errF]), if_pos t]; rfl
  | error e =>
    have t : ((mkx (valF (Except.error e)), errF (Except.error e)) : Fx × Int).2 ≠ 0 := hx.h e rfl
    unfold bothS
    rw [if_pos t]; rfl
theorem errW_both (x y : Except Int Int) [hx : E x] [hy : E y] : (wayR (both x y)).2 = errW (both x y) := rfl
instance (a b : Int) : E (divF a b) := ⟨fun e h => by unfold divF at h; split at h; (cases h; decide); exact (inferInstance : E (tell _ _)).h e h⟩
instance (a : Int) : E (sqrtF a) := ⟨fun e h => by unfold sqrtF at h; split at h; (cases h; decide); exact (inferInstance : E (tell _ _)).h e h⟩
instance (a b : Int) : F (valF (divF a b)) := F_val fun r h => by
  unfold divF at h; split at h
  · cases h
  · refine tell_F (Int.ediv_nonneg ?_ ?_) h <;> (have := mag_nn a; have := mag_nn b; omega)
instance (a : Int) : F (valF (sqrtF a)) := F_val fun r h => by
  unfold sqrtF at h; split at h
  · cases h
  · exact tell_F (isq_bd _).1 h
instance (a : Int) [h : F a] : F (halfF a) := ⟨by have := h.h; unfold halfF; split <;> omega⟩
theorem k_r1_both : C2 Tryd.prog TabI 89 cGot cGot PV.rway (fun a b => True) bothS :=
  .ev (fun a b => []) mixed (mkOrc_ok (l := L5r) (x := []) trivial) Tryd.func89 (by decide) fun a b h => by
    refine ⟨?_⟩
    have e : evPure Tryd.prog (mkOrc L5r []) Tryd.f89 [] [cGot.enc a, cGot.enc b] =
      Tr.ite (a.snd != (0 : Int)) (Tr.ret (PV.rway ({ X := { h := (0 : Int), l := (0 : Int) }, Y := { h := (0 : Int), l := (0 : Int) } }, a.snd))) (Tr.ite (b.snd != (0 : Int)) (Tr.ret (PV.rway ({ X := { h := (0 : Int), l := (0 : Int) }, Y := { h := (0 : Int), l := (0 : Int) } }, b.snd))) (Tr.ret (PV.rway ({ X := a.fst, Y := b.fst }, (0 : Int))))) := by kernel_rfl
    rw [e]; clear e
    simp only [Tr.holds, bne_iff_ne, bne_eq_false_iff_eq]
    unfold bothS
    exact ⟨fun h1 => by rw [if_pos h1], fun h1 => ⟨fun h2 => by rw [if_neg (by simp [h1]), if_pos h2], fun h2 => by rw [if_neg (by simp [h1]), if_neg (by simp [h2])]⟩⟩
theorem k_r1_May : C1 Tryd.prog TabI 66 cFx cB.enc (fun a => True) fun a => mayF a.h a.l := fun a _ E w _ => r1_May a.h a.l w
theorem k_r1_MayVec : C1 Tryd.prog TabI 24 cVc cB.enc (fun a => True) fun a => mayF a.X.h a.X.l && mayF a.Y.h a.Y.l := fun a _ E w _ => r1_MayVec a.X.h a.X.l a.Y.h a.Y.l w
theorem k_r1_NegVec : C1 Tryd.prog TabI 23 cVc cVc.enc okV fun a => ⟨mkx (-(num a.X)), mkx (-(num a.Y))⟩ := fun a h E w _ => by
  rw [emb_Vc a h]; haveI := h.1.2; haveI := h.2.2; exact r1_NegVec (num a.X) (num a.Y) w
def L6a : List (Ent Tryd.prog tid TabI) := e2 k_r1_both Tryd.func89 :: e1 k_r1_May Tryd.func66 :: e1 k_r1_MayVec Tryd.func24 :: e1 k_r1_NegVec Tryd.func23 :: L5r
theorem k_r1_AddVec : C2 Tryd.prog TabI 50 cVc cVc PV.rway (fun a b => okV a ∧ okV b) fun a b => wayR (both (addF (num a.X) (num b.X)) (addF (num a.Y) (num b.Y))) :=
  .ev (fun a b => []) mixed (mkOrc_ok (l := L6a) (x := []) trivial) Tryd.func50 (by decide) fun a b h => by
    refine ⟨?_⟩
    have e : evPure Tryd.prog (mkOrc L6a []) Tryd.f50 [] [cVc.enc a, cVc.enc b] =
      Tr.chk (decide (okF a.X ∧ okF b.X)) (Tr.chk (decide (okF a.Y ∧ okF b.Y)) (Tr.chk (decide True) (Tr.ret (PV.rway (bothS (mkx (valF (addF (num a.X) (num b.X))), errF (addF (num a.X) (num b.X))) (mkx (valF (addF (num a.Y) (num b.Y))), errF (addF (num a.Y) (num b.Y)))))))) := by kernel_rfl
    rw [e]; clear e
    simp only [Tr.holds, decide_eq_true_eq, bothS_is]
    exact ⟨⟨h.1.1, h.2.1⟩, ⟨h.1.2, h.2.2⟩, trivial, trivial⟩
theorem k_r1_Scale : C2 Tryd.prog TabI 63 cVc cFx PV.rway (fun a b => okV a ∧ okF b) fun a b => wayR (both (mulF (num a.X) (num b)) (mulF (num a.Y) (num b))) :=
  .ev (fun a b => []) mixed (mkOrc_ok (l := L6a) (x := []) trivial) Tryd.func63 (by decide) fun a b h => by
    refine ⟨?_⟩
    have e : evPure Tryd.prog (mkOrc L6a []) Tryd.f63 [] [cVc.enc a, cFx.enc b] =
      Tr.chk (decide (okF a.X ∧ okF b)) (Tr.chk (decide (okF a.Y ∧ okF b)) (Tr.chk (decide True) (Tr.ret (PV.rway (bothS (mkx (valF (mulF (num a.X) (num b))), errF (mulF (num a.X) (num b))) (mkx (valF (mulF (num a.Y) (num b))), errF (mulF (num a.Y) (num b)))))))) := by kernel_rfl
    rw [e]; clear e
    simp only [Tr.holds, decide_eq_true_eq, bothS_is]
    exact ⟨⟨h.1.1, h.2⟩, ⟨h.1.2, h.2⟩, trivial, trivial⟩
def dotF (ax ay bx y : Int) : Except Int Int := match both (mulF ax bx) (mulF ay y) with
  | .ok (p, q) => addF p q
  | .error e => .error e
theorem k_r1_Dot : C2 Tryd.prog TabI 73 cVc cVc PV.got (fun a b => okV a ∧ okV b) fun a b => gotR (dotF (num a.X) (num a.Y) (num b.X) (num b.Y)) :=
  .ev (fun a b => []) mixed (mkOrc_ok (l := L6a) (x := []) trivial) Tryd.func73 (by decide) fun a b h => by
    refine ⟨?_⟩
    have e : evPure Tryd.prog (mkOrc L6a []) Tryd.f73 [] [cVc.enc a, cVc.enc b] =
      Tr.chk (decide (okF a.X ∧ okF b.X)) (Tr.chk (decide (okF a.Y ∧ okF b.Y)) (Tr.chk (decide True) (Tr.ite ((bothS (mkx (valF (mulF (num a.X) (num b.X))), errF (mulF (num a.X) (num b.X))) (mkx (valF (mulF (num a.Y) (num b.Y))), errF (mulF (num a.Y) (num b.Y)))).snd != (0 : Int)) (Tr.ret (PV.got ({ h := (0 : Int), l := (0 : Int) }, (bothS (mkx (valF (mulF (num a.X) (num b.X))), errF (mulF (num a.X) (num b.X))) (mkx (valF (mulF (num a.Y) (num b.Y))), errF (mulF (num a.Y) (num b.Y)))).snd))) (Tr.chk (decide (okF (bothS (mkx (valF (mulF (num a.X) (num b.X))), errF (mulF (num a.X) (num b.X))) (mkx (valF (mulF (num a.Y) (num b.Y))), errF (mulF (num a.Y) (num b.Y)))).fst.X ∧ okF (bothS (mkx (valF (mulF (num a.X) (num b.X))), errF (mulF (num a.X) (num b.X))) (mkx (valF (mulF (num a.Y) (num b.Y))), errF (mulF (num a.Y) (num b.Y)))).fst.Y)) (Tr.ret (PV.got (gotR (addF (num (bothS (mkx (valF (mulF (num a.X) (num b.X))), errF (mulF (num a.X) (num b.X))) (mkx (valF (mulF (num a.Y) (num b.Y))), errF (mulF (num a.Y) (num b.Y)))).fst.X) (num (bothS (mkx (valF (mulF (num a.X) (num b.X))), errF (mulF (num a.X) (num b.X))) (mkx (valF (mulF (num a.Y) (num b.Y))), errF (mulF (num a.Y) (num b.Y)))).fst.Y))))))))) := by kernel_rfl
    rw [e]; clear e
    simp only [Tr.holds, decide_eq_true_eq, bothS_is]
    refine ⟨⟨h.1.1, h.2.1⟩, ⟨h.1.2, h.2.2⟩, trivial, fun he => ?_, fun he => ⟨⟨okF_mk _, okF_mk _⟩, ?_⟩⟩
    · have := EW_err (x := both (mulF (num a.X) (num b.X)) (mulF (num a.Y) (num b.Y))) he
      unfold dotF
      rw [this]; (try rfl)
    · have := EW_ok (x := both (mulF (num a.X) (num b.X)) (mulF (num a.Y) (num b.Y))) he
      simp only [wayR, num_mk]
      unfold dotF
      generalize both (mulF (num a.X) (num b.X)) (mulF (num a.Y) (num b.Y)) = z at *
      rw [this]; (try rfl)
instance (ax ay bx y : Int) : E (dotF ax ay bx y) := ⟨fun e h => by
  unfold dotF at h; split at h
  · exact (inferInstance : E (addF _ _)).h e h
  · rename_i e' he
    cases h
    exact (inferInstance : E (both (mulF ax bx) (mulF ay y))).h e he⟩
instance (ax ay bx y : Int) : F (valF (dotF ax ay bx y)) := F_val fun r h => by
  unfold dotF at h; split at h
  · exact addF_F h
  · cases h
def L6b : List (Ent Tryd.prog tid TabI) := e2 k_r1_AddVec Tryd.func50 :: e2 k_r1_Scale Tryd.func63 :: e2 k_r1_Dot Tryd.func73 :: L6a
theorem k_r1_Len2 : C1 Tryd.prog TabI 36 cVc PV.got okV fun a => gotR (dotF (num a.X) (num a.Y) (num a.X) (num a.Y)) :=
  .ev (fun a => []) mixed (mkOrc_ok (l := L6b) (x := []) trivial) Tryd.func36 (by decide) fun a h => by
    refine ⟨?_⟩
    have e : evPure Tryd.prog (mkOrc L6b []) Tryd.f36 [] [cVc.enc a] =
      Tr.chk (decide (okV a ∧ okV a)) (Tr.ret (PV.got (gotR (dotF (num a.X) (num a.Y) (num a.X) (num a.Y))))) := by kernel_rfl
    rw [e]; clear e
    simp only [Tr.holds, decide_eq_true_eq]
    exact ⟨⟨h, h⟩, trivial⟩
def L6c : List (Ent Tryd.prog tid TabI) := e1 k_r1_Len2 Tryd.func36 :: L6b
def lenF (x y : Int) : Except Int Int := match dotF x y x y with
  | .ok n => sqrtF n
  | .error e => .error e
theorem k_r1_Length : C1 Tryd.prog TabI 29 cVc PV.got okV fun a => gotR (lenF (num a.X) (num a.Y)) :=
  .ev (fun a => []) mixed (mkOrc_ok (l := L6c) (x := []) trivial) Tryd.func29 (by decide) fun a h => by
    refine ⟨?_⟩
    have e : evPure Tryd.prog (mkOrc L6c []) Tryd.f29 [] [cVc.enc a] =
      Tr.chk (decide (okV a)) (Tr.ite (errF (dotF (num a.X) (num a.Y) (num a.X) (num a.Y)) != (0 : Int)) (Tr.ret (PV.got (gotR (dotF (num a.X) (num a.Y) (num a.X) (num a.Y))))) (Tr.chk (decide (okF (mkx (valF (dotF (num a.X) (num a.Y) (num a.X) (num a.Y)))))) (Tr.ret (PV.got (gotR (sqrtF (num (mkx (valF (dotF (num a.X) (num a.Y) (num a.X) (num a.Y))))))))))) := by kernel_rfl
    rw [e]; clear e
    simp only [Tr.holds, decide_eq_true_eq]
    refine ⟨h, fun he => ?_, fun he => ⟨okF_mk _, ?_⟩⟩
    · have := E_err he
      unfold lenF
      generalize dotF (num a.X) (num a.Y) (num a.X) (num a.Y) = z at *
      rw [this]; (try rfl)
    · have := E_ok he
      unfold lenF
      rw [num_mk]
      generalize dotF (num a.X) (num a.Y) (num a.X) (num a.Y) = z at *
      rw [this]; (try rfl)
def L6 : List (Ent Tryd.prog tid TabI) := e1 k_r1_Length Tryd.func29 :: L6c
end Go.Proofs.YtpbklojdmkpkcaaDoor
/- The reference's turns; as contracts. -/
namespace Go.Proofs.YtpbklojdmkpkcaaDoor
open Go Go.RowKit
set_option linter.unusedVariables false
set_option linter.unusedSimpArgs false
set_option maxRecDepth 100000
theorem tell_err (n : Int) (b : Bool) : errF (tell n b) = 0 ∨ errF (tell n b) = 3 := by unfold tell; split <;> simp [errF]
theorem mul_err (a b : Int) : errF (mulF a b) = 0 ∨ errF (mulF a b) = 3 := by unfold mulF; exact tell_err _ _
theorem add_err (a b : Int) : errF (addF a b) = 0 ∨ errF (addF a b) = 3 := by unfold addF; split <;> simp [errF]
theorem addF_comm (a b : Int) : addF a b = addF b a := by unfold addF; rw [Int.add_comm]
theorem mulF_comm (a b : Int) : mulF a b = mulF b a := by
  unfold mulF; rw [Int.mul_comm]; congr 1; cases neg a <;> cases neg b <;> rfl
theorem mag_neg' (a : Int) : mag (-a) = mag a := by unfold mag; split <;> split <;> omega
theorem mulF_neg (a b : Int) : valF (mulF (-a) b) = -(valF (mulF a b)) ∧ errF (mulF (-a) b) = errF (mulF a b) := by
  unfold mulF
  rw [mag_neg']
  by_cases h : a = 0
  · subst h; simp [mag, tell, valF, errF]
  · have e : neg (-a) = !neg a := by unfold neg; by_cases h2 : a < 0 <;> simp [h2] <;> omega
    rw [e]
    unfold tell
    split
    · simp [valF, errF]
    · cases neg a <;> cases neg b <;> simp [valF, errF]
theorem both_val {x y : Except Int Int} [E x] [E y] (h1 : errF x = 0) (h2 : errF y = 0) : both x y = .ok (valF x, valF y) := both_ok (by simp [h1]) (by simp [h2])
theorem errW_both' (x y : Except Int Int) (h1 : errF x = 0 ∨ errF x = 3) (h2 : errF y = 0 ∨ errF y = 3) [hx : E x] [hy : E y] : (errF x = 0 ∧ errF y = 0 → errW (both x y) = 0) ∧ (¬ (errF x = 0 ∧ errF y = 0) → both x y = .error 3) := by
  cases x <;> cases y <;> simp [both, errF, errW] at *
  · rename_i e e'; have := hx.h e rfl; omega
  · rename_i e a; have := hx.h e rfl; omega
  · rename_i a e; have := hy.h e rfl; omega
theorem turned_ok (x y dx dy : Int) (h1 : errF (mulF x dx) = 0) (h2 : errF (mulF y dy) = 0) (h3 : errF (mulF x dy) = 0) (h4 : errF (mulF y dx) = 0) : byF x y dx dy = both (subF (valF (mulF x dx)) (valF (mulF y dy))) (addF (valF (mulF x dy)) (valF (mulF y dx))) := by
  obtain ⟨n1, n2⟩ := mulF_neg y dy
  have p1 : byP x dx y = .ok (valF (mulF x dx), valF (mulF y dx)) := both_val h1 h4
  have p2 : byP (-y) dy x = .ok (valF (mulF (-y) dy), valF (mulF x dy)) := both_val (by rw [n2]; exact h2) h3
  unfold byF byS
  rw [p1, p2, n1]
  simp only [errW, valX, valY]
  rw [addF_comm (valF (mulF y dx))]
  rfl
theorem turned_err (x y dx dy : Int) (h : ¬ (errF (mulF x dx) = 0 ∧ errF (mulF y dy) = 0 ∧ errF (mulF x dy) = 0 ∧ errF (mulF y dx) = 0)) : byF x y dx dy = .error 3 := by
  obtain ⟨n1, n2⟩ := mulF_neg y dy
  have q1 := errW_both' (mulF x dx) (mulF y dx) (mul_err _ _) (mul_err _ _)
  have q2 := errW_both' (mulF (-y) dy) (mulF x dy) (mul_err _ _) (mul_err _ _)
  unfold byF
  by_cases c1 : errF (mulF x dx) = 0 ∧ errF (mulF y dx) = 0
  · have c2 : ¬ (errF (mulF (-y) dy) = 0 ∧ errF (mulF x dy) = 0) := by rw [n2]; omega
    have e1 := q1.1 c1
    have e2 := q2.2 c2
    have e1' : errW (byP x dx y) = 0 := e1
    have e2' : byP (-y) dy x = .error 3 := e2
    rw [e2', e1']; rfl
  · have e1 : byP x dx y = .error 3 := q1.2 c1
    rw [e1]; rfl
theorem k_r1_turned : C2 Tryd.prog TabI 110 cVc cVc PV.rway (fun v d => okV v ∧ okV d) fun v d => wayR (byF (num v.X) (num v.Y) (num d.X) (num d.Y)) :=
  .ev (fun a b => []) mixed (mkOrc_ok (l := L6) (x := []) trivial) Tryd.func110 (by decide) fun v d h => by
    refine ⟨?_⟩
    have e : evPure Tryd.prog (mkOrc L6 []) Tryd.f110 [] [cVc.enc v, cVc.enc d] =
      Tr.chk (decide (okF v.X ∧ okF d.X)) (Tr.chk (decide (okF v.Y ∧ okF d.Y)) (Tr.chk (decide (okF v.X ∧ okF d.Y)) (Tr.chk (decide (okF v.Y ∧ okF d.X)) (Tr.ite (IntKind.i64.wrap (IntKind.i64.wrap (IntKind.i64.wrap (errF (mulF (num v.X) (num d.X)) + errF (mulF (num v.Y) (num d.Y))) + errF (mulF (num v.X) (num d.Y))) + errF (mulF (num v.Y) (num d.X))) != (0 : Int)) (Tr.ret (PV.rway ({ X := { h := (0 : Int), l := (0 : Int) }, Y := { h := (0 : Int), l := (0 : Int) } }, (3 : Int)))) (Tr.chk (decide (okF (mkx (valF (mulF (num v.X) (num d.X)))) ∧ okF (mkx (valF (mulF (num v.Y) (num d.Y)))))) (Tr.chk (decide (okF (mkx (valF (mulF (num v.X) (num d.Y)))) ∧ okF (mkx (valF (mulF (num v.Y) (num d.X)))))) (Tr.chk (decide True) (Tr.ret (PV.rway (bothS (mkx (valF (subF (num (mkx (valF (mulF (num v.X) (num d.X))))) (num (mkx (valF (mulF (num v.Y) (num d.Y))))))), errF (subF (num (mkx (valF (mulF (num v.X) (num d.X))))) (num (mkx (valF (mulF (num v.Y) (num d.Y))))))) (mkx (valF (addF (num (mkx (valF (mulF (num v.X) (num d.Y))))) (num (mkx (valF (mulF (num v.Y) (num d.X))))))), errF (addF (num (mkx (valF (mulF (num v.X) (num d.Y))))) (num (mkx (valF (mulF (num v.Y) (num d.X))))))))))))))))) := by kernel_rfl
    rw [e]; clear e
    simp only [Tr.holds, decide_eq_true_eq]
    obtain ⟨⟨v1, v2⟩, d1, d2⟩ := h
    refine ⟨⟨v1, d1⟩, ⟨v2, d2⟩, ⟨v1, d2⟩, ⟨v2, d1⟩, ?_⟩
    have w0 : ∀ x : Int, 0 ≤ x ∧ x ≤ 100 → IntKind.i64.wrap x = x := fun x h => wrap_i64_id x (by omega)
    have m1 := mul_err (num v.X) (num d.X)
    have m2 := mul_err (num v.Y) (num d.Y)
    have m3 := mul_err (num v.X) (num d.Y)
    have m4 := mul_err (num v.Y) (num d.X)
    rw [w0 (errF (mulF (num v.X) (num d.X)) + errF (mulF (num v.Y) (num d.Y))) (by omega), w0 (errF (mulF (num v.X) (num d.X)) + errF (mulF (num v.Y) (num d.Y)) + errF (mulF (num v.X) (num d.Y))) (by omega), w0 _ (by omega)]
    simp only [bne_iff_ne, bne_eq_false_iff_eq, num_mk, bothS_is]
    refine ⟨fun he => ?_, fun he => ⟨⟨okF_mk _, okF_mk _⟩, ⟨okF_mk _, okF_mk _⟩, trivial, ?_⟩⟩
    · rw [turned_err _ _ _ _ (by omega)]; rfl
    · rw [turned_ok _ _ _ _ (by omega) (by omega) (by omega) (by omega)]
def tabV : List Vc := (List.range 14).map fun k => ⟨⟨0, tabX k⟩, ⟨0, tabY k⟩⟩
theorem k_r1_Table : CR Tryd.prog tid TabI 35 aNil (aRow .vec) [] (fun _ => True) fun _ => tabV :=
  .ev (fun _ => [.un 15]) mixed (mkOrc_ok (l := L6) (x := []) trivial) Tryd.func35 (fun _ => Nat.le_of_ble_eq_true rfl) rfl fun a h => by
    refine .force ⟨?_⟩
    have e : (evR Tryd.prog (mkOrc L6 []) Tryd.f35 [.un 15] aNil (aRow .vec) [] a).force = .ret tabV := by kernel_rfl
    rw [e]; rfl
def decRWay : PV → Option (Vc × Int)
  | .agg [.raw (.int .i64 a), .raw (.int .u64 b), .raw (.int .i64 c), .raw (.int .u64 d), .raw (.int .i64 e)] => some (⟨⟨a, b⟩, ⟨c, d⟩⟩, e)
  | _ => none
def cRWay : Cod (Vc × Int) := ⟨PV.rway, decRWay, fun _ => rfl, fun v a h => by
  unfold decRWay at h; split at h
  · cases h; rfl
  · cases h⟩
def L7a : List (Ent Tryd.prog tid TabI) := e2 k_r1_turned Tryd.func110 :: eR k_r1_Table Tryd.func35 :: L6
abbrev andI (x y : Int) : Int := IntKind.i64.wrap ↑(BitVec.ofInt 64 x &&& BitVec.ofInt 64 y).toNat
theorem and_isI (x y : Int) : IntKind.i64.wrap ↑(BitVec.ofInt 64 x &&& BitVec.ofInt 64 y).toNat = andI x y := rfl
theorem andI_1 (n : Int) (h : 0 ≤ n ∧ n ≤ 65535) : andI n 1 = n % 2 := and_1 n h
theorem tab_len : tabV.length = 14 := rfl
theorem tab_get (k : Nat) (hk : k < 14) (d : Vc) : tabV.getD k d = ⟨⟨0, tabX k⟩, ⟨0, tabY k⟩⟩ := by
  unfold tabV
  simp [List.getD, hk]
theorem tab_num (k : Nat) : num ⟨0, tabX k⟩ = tabX k ∧ num ⟨0, tabY k⟩ = tabY k := ⟨num_lo _, num_lo _⟩
theorem tab_ok (k : Nat) : okV ⟨⟨0, tabX k⟩, ⟨0, tabY k⟩⟩ := by
  have := tab_lt k
  exact ⟨⟨⟨by simp only; omega⟩, ⟨by rw [(tab_num k).1]; omega⟩⟩, ⟨⟨by simp only; omega⟩, ⟨by rw [(tab_num k).2]; omega⟩⟩⟩
instance (x y dx dy : Int) : F (valX (byF x y dx dy)) := by
  unfold byF; split
  · exact (inferInstance : F 0)
  · split
    · exact (inferInstance : F 0)
    · infer_instance
instance (x y dx dy : Int) : F (valY (byF x y dx dy)) := by
  unfold byF; split
  · exact (inferInstance : F 0)
  · split
    · exact (inferInstance : F 0)
    · infer_instance
def byLoop1 (v : Vc) (m : Int) : LSpec where
  σ := Int × Vc
  keysT := [7]
  keysB := [104, 106]
  enc := fun _ x => ([.int .i64 x.1], [.cells [.int .i64 x.2.X.h, .int .u64 x.2.X.l, .int .i64 x.2.Y.h, .int .u64 x.2.Y.l] 26, .cells [.int .i64 0, .int .u64 0, .int .i64 0, .int .u64 0, .int .i64 0] 47])
  rd := fun _ s => match s.tmps 7, s.mem 104 with
    | some (.raw (.int _ i)), some (.cells [.raw (.int _ a), .raw (.int _ b), .raw (.int _ c), .raw (.int _ d)] _) => some ((i, ⟨⟨a, b⟩, ⟨c, d⟩⟩), [])
    | _, _ => none
  inv := fun _ x => (0 ≤ x.1 ∧ x.1 ≤ 14) ∧ okV x.2 ∧ rotL m (num v.X) (num v.Y) x.1.toNat = .ok (num x.2.X, num x.2.Y)
  μ := fun _ x => (14 - x.1).toNat
def byLoop2 (v : Vc) (m : Int) : LSpec where
  σ := Int × Vc
  keysT := [9]
  keysB := [104]
  enc := fun _ x => ([.int .i64 x.1], [.cells [.int .i64 x.2.X.h, .int .u64 x.2.X.l, .int .i64 x.2.Y.h, .int .u64 x.2.Y.l] 26])
  rd := fun _ s => match s.tmps 9, s.mem 104 with
    | some (.raw (.int _ i)), some (.cells [.raw (.int _ a), .raw (.int _ b), .raw (.int _ c), .raw (.int _ d)] _) => some ((i, ⟨⟨a, b⟩, ⟨c, d⟩⟩), [])
    | _, _ => none
  inv := fun _ x => (0 ≤ x.1 ∧ x.1 ≤ m / 16384) ∧ okV x.2 ∧ ∃ u, rotL m (num v.X) (num v.Y) 14 = .ok u ∧ (num x.2.X, num x.2.Y) = qt u (m / 16384 - x.1).toNat
  μ := fun _ x => x.1.toNat
theorem k_r1_By : CR Tryd.prog tid TabI 70 (aCat (aRow .vec) (aCat (aPlain cVc) (aPlain (cI .i64)))) (aPlain cRWay) [] (fun x => x.1 = tabV ∧ okV x.2.1 ∧ -9223372036854775808 ≤ x.2.2 ∧ x.2.2 ≤ 9223372036854775807) fun x => wayR (rotF (num x.2.1.X) (num x.2.1.Y) x.2.2) :=
  .ev (fun x => [byLoop1 x.2.1 (x.2.2 % 65536), byLoop2 x.2.1 (x.2.2 % 65536)]) mixed (mkOrc_ok (l := L7a) (x := []) trivial) Tryd.func70 (fun _ => Nat.le_of_ble_eq_true rfl) rfl fun x h => by
    obtain ⟨t, v, a⟩ := x
    obtain ⟨ht, hv, ha⟩ := h
    simp only at ht hv ha
    subst ht
    refine ⟨?_⟩
    simp only
    have e : evR Tryd.prog (mkOrc L7a []) Tryd.f70 [byLoop1 v (a % 65536), byLoop2 v (a % 65536)] (aCat (aRow .vec) (aCat (aPlain cVc) (aPlain (cI .i64)))) (aPlain cRWay) [] (tabV, v, a) =
      Tr.chk true (Tr.chk true (Tr.need ((0 : Int) = (0 : Int) ∧ True) (Tr.need ((v.X.h = v.X.h ∧ v.X.l = v.X.l ∧ v.Y.h = v.Y.h ∧ v.Y.l = v.Y.l ∧ True) ∧ ((0 : Int) = (0 : Int) ∧ (0 : Int) = (0 : Int) ∧ (0 : Int) = (0 : Int) ∧ (0 : Int) = (0 : Int) ∧ (0 : Int) = (0 : Int) ∧ True) ∧ True) (Tr.need (((0 : Int) ≤ (0 : Int) ∧ (0 : Int) ≤ (14 : Int)) ∧ okV v ∧ rotL (a % (65536 : Int)) (num v.X) (num v.Y) (Int.toNat (0 : Int)) = Except.ok (num v.X, num v.Y)) (Tr.all (Int × Vc) (fun x => ((0 : Int) ≤ x.fst ∧ x.fst ≤ (14 : Int)) ∧ okV x.snd ∧ rotL (a % (65536 : Int)) (num v.X) (num v.Y) x.fst.toNat = Except.ok (num x.snd.X, num x.snd.Y)) fun x => Tr.ite (decide (x.fst < (14 : Int))) (Tr.chk (decide ((0 : Int) ≤ IntKind.i64.wrap ((13 : Int) - x.fst))) (Tr.ite (IntKind.i64.wrap ↑(BitVec.ofInt (64 : Nat) (((IntKind.i64.wrap (a.tmod (65536 : Int) + (65536 : Int))).tmod (65536 : Int)).fdiv ((2 : Int) ^ min (IntKind.i64.wrap ((13 : Int) - x.fst)).toNat (64 : Nat))) &&& BitVec.ofInt (64 : Nat) (1 : Int)).toNat == (1 : Int)) (Tr.chk (decide ((0 : Int) ≤ x.fst) && decide (x.fst < ↑tabV.length)) (Tr.chk (x.fst.toNat.blt tabV.length) (Tr.chk (decide (okV x.snd ∧ okV (tabV.getD x.fst.toNat ET.vec.dflt))) (Tr.ite (errW (byF (num x.snd.X) (num x.snd.Y) (num (tabV.getD x.fst.toNat ET.vec.dflt).X) (num (tabV.getD x.fst.toNat ET.vec.dflt).Y)) != (0 : Int)) (Tr.ret ({ X := mkx (valX (byF (num x.snd.X) (num x.snd.Y) (num (tabV.getD x.fst.toNat ET.vec.dflt).X) (num (tabV.getD x.fst.toNat ET.vec.dflt).Y))), Y := mkx (valY (byF (num x.snd.X) (num x.snd.Y) (num (tabV.getD x.fst.toNat ET.vec.dflt).X) (num (tabV.getD x.fst.toNat ET.vec.dflt).Y))) }, errW (byF (num x.snd.X) (num x.snd.Y) (num (tabV.getD x.fst.toNat ET.vec.dflt).X) (num (tabV.getD x.fst.toNat ET.vec.dflt).Y)))) (Tr.need (IntKind.i64.wrap (x.fst + (1 : Int)) = IntKind.i64.wrap (x.fst + (1 : Int)) ∧ True) (Tr.need (((mkx (valX (byF (num x.snd.X) (num x.snd.Y) (num (tabV.getD x.fst.toNat ET.vec.dflt).X) (num (tabV.getD x.fst.toNat ET.vec.dflt).Y)))).h = (mkx (valX (byF (num x.snd.X) (num x.snd.Y) (num (tabV.getD x.fst.toNat ET.vec.dflt).X) (num (tabV.getD x.fst.toNat ET.vec.dflt).Y)))).h ∧ (mkx (valX (byF (num x.snd.X) (num x.snd.Y) (num (tabV.getD x.fst.toNat ET.vec.dflt).X) (num (tabV.getD x.fst.toNat ET.vec.dflt).Y)))).l = (mkx (valX (byF (num x.snd.X) (num x.snd.Y) (num (tabV.getD x.fst.toNat ET.vec.dflt).X) (num (tabV.getD x.fst.toNat ET.vec.dflt).Y)))).l ∧ (mkx (valY (byF (num x.snd.X) (num x.snd.Y) (num (tabV.getD x.fst.toNat ET.vec.dflt).X) (num (tabV.getD x.fst.toNat ET.vec.dflt).Y)))).h = (mkx (valY (byF (num x.snd.X) (num x.snd.Y) (num (tabV.getD x.fst.toNat ET.vec.dflt).X) (num (tabV.getD x.fst.toNat ET.vec.dflt).Y)))).h ∧ (mkx (valY (byF (num x.snd.X) (num x.snd.Y) (num (tabV.getD x.fst.toNat ET.vec.dflt).X) (num (tabV.getD x.fst.toNat ET.vec.dflt).Y)))).l = (mkx (valY (byF (num x.snd.X) (num x.snd.Y) (num (tabV.getD x.fst.toNat ET.vec.dflt).X) (num (tabV.getD x.fst.toNat ET.vec.dflt).Y)))).l ∧ True) ∧ ((0 : Int) = (0 : Int) ∧ (0 : Int) = (0 : Int) ∧ (0 : Int) = (0 : Int) ∧ (0 : Int) = (0 : Int) ∧ (0 : Int) = (0 : Int) ∧ True) ∧ True) (Tr.need (((0 : Int) ≤ IntKind.i64.wrap (x.fst + (1 : Int)) ∧ IntKind.i64.wrap (x.fst + (1 : Int)) ≤ (14 : Int)) ∧ okV { X := mkx (valX (byF (num x.snd.X) (num x.snd.Y) (num (tabV.getD x.fst.toNat ET.vec.dflt).X) (num (tabV.getD x.fst.toNat ET.vec.dflt).Y))), Y := mkx (valY (byF (num x.snd.X) (num x.snd.Y) (num (tabV.getD x.fst.toNat ET.vec.dflt).X) (num (tabV.getD x.fst.toNat ET.vec.dflt).Y))) } ∧ rotL (a % (65536 : Int)) (num v.X) (num v.Y) (IntKind.i64.wrap (x.fst + (1 : Int))).toNat = Except.ok (num (mkx (valX (byF (num x.snd.X) (num x.snd.Y) (num (tabV.getD x.fst.toNat ET.vec.dflt).X) (num (tabV.getD x.fst.toNat ET.vec.dflt).Y)))), num (mkx (valY (byF (num x.snd.X) (num x.snd.Y) (num (tabV.getD x.fst.toNat ET.vec.dflt).X) (num (tabV.getD x.fst.toNat ET.vec.dflt).Y)))))) (Tr.need (((14 : Int) - IntKind.i64.wrap (x.fst + (1 : Int))).toNat < ((14 : Int) - x.fst).toNat) Tr.done)))))))) (Tr.need (IntKind.i64.wrap (x.fst + (1 : Int)) = IntKind.i64.wrap (x.fst + (1 : Int)) ∧ True) (Tr.need ((x.snd.X.h = x.snd.X.h ∧ x.snd.X.l = x.snd.X.l ∧ x.snd.Y.h = x.snd.Y.h ∧ x.snd.Y.l = x.snd.Y.l ∧ True) ∧ ((0 : Int) = (0 : Int) ∧ (0 : Int) = (0 : Int) ∧ (0 : Int) = (0 : Int) ∧ (0 : Int) = (0 : Int) ∧ (0 : Int) = (0 : Int) ∧ True) ∧ True) (Tr.need (((0 : Int) ≤ IntKind.i64.wrap (x.fst + (1 : Int)) ∧ IntKind.i64.wrap (x.fst + (1 : Int)) ≤ (14 : Int)) ∧ okV x.snd ∧ rotL (a % (65536 : Int)) (num v.X) (num v.Y) (IntKind.i64.wrap (x.fst + (1 : Int))).toNat = Except.ok (num x.snd.X, num x.snd.Y)) (Tr.need (((14 : Int) - IntKind.i64.wrap (x.fst + (1 : Int))).toNat < ((14 : Int) - x.fst).toNat) Tr.done)))))) (Tr.chk true (Tr.need (((IntKind.i64.wrap (a.tmod (65536 : Int) + (65536 : Int))).tmod (65536 : Int)).fdiv ((2 : Int) ^ (14 : Nat)) = ((IntKind.i64.wrap (a.tmod (65536 : Int) + (65536 : Int))).tmod (65536 : Int)).fdiv ((2 : Int) ^ (14 : Nat)) ∧ True) (Tr.need ((x.snd.X.h = x.snd.X.h ∧ x.snd.X.l = x.snd.X.l ∧ x.snd.Y.h = x.snd.Y.h ∧ x.snd.Y.l = x.snd.Y.l ∧ True) ∧ True) (Tr.need (((0 : Int) ≤ ((IntKind.i64.wrap (a.tmod (65536 : Int) + (65536 : Int))).tmod (65536 : Int)).fdiv ((2 : Int) ^ (14 : Nat)) ∧ ((IntKind.i64.wrap (a.tmod (65536 : Int) + (65536 : Int))).tmod (65536 : Int)).fdiv ((2 : Int) ^ (14 : Nat)) ≤ a % (65536 : Int) / (16384 : Int)) ∧ okV x.snd ∧ ∃ u, rotL (a % (65536 : Int)) (num v.X) (num v.Y) (14 : Nat) = Except.ok u ∧ (num x.snd.X, num x.snd.Y) = qt u (a % (65536 : Int) / (16384 : Int) - ((IntKind.i64.wrap (a.tmod (65536 : Int) + (65536 : Int))).tmod (65536 : Int)).fdiv ((2 : Int) ^ (14 : Nat))).toNat) (Tr.all (Int × Vc) (fun x => ((0 : Int) ≤ x.fst ∧ x.fst ≤ a % (65536 : Int) / (16384 : Int)) ∧ okV x.snd ∧ ∃ u, rotL (a % (65536 : Int)) (num v.X) (num v.Y) (14 : Nat) = Except.ok u ∧ (num x.snd.X, num x.snd.Y) = qt u (a % (65536 : Int) / (16384 : Int) - x.fst).toNat) fun x => Tr.ite (decide (x.fst > (0 : Int))) (Tr.chk (decide (okF x.snd.Y)) (Tr.need (IntKind.i64.wrap (x.fst - (1 : Int)) = IntKind.i64.wrap (x.fst - (1 : Int)) ∧ True) (Tr.need (((mkx (-num x.snd.Y)).h = (mkx (-num x.snd.Y)).h ∧ (mkx (-num x.snd.Y)).l = (mkx (-num x.snd.Y)).l ∧ x.snd.X.h = x.snd.X.h ∧ x.snd.X.l = x.snd.X.l ∧ True) ∧ True) (Tr.need (((0 : Int) ≤ IntKind.i64.wrap (x.fst - (1 : Int)) ∧ IntKind.i64.wrap (x.fst - (1 : Int)) ≤ a % (65536 : Int) / (16384 : Int)) ∧ okV { X := mkx (-num x.snd.Y), Y := x.snd.X } ∧ ∃ u, rotL (a % (65536 : Int)) (num v.X) (num v.Y) (14 : Nat) = Except.ok u ∧ (num (mkx (-num x.snd.Y)), num x.snd.X) = qt u (a % (65536 : Int) / (16384 : Int) - IntKind.i64.wrap (x.fst - (1 : Int))).toNat) (Tr.need ((IntKind.i64.wrap (x.fst - (1 : Int))).toNat < x.fst.toNat) Tr.done))))) (Tr.ret (x.snd, (0 : Int))))))))))))) := by kernel_rfl
    rw [e]; clear e
    have ea : (IntKind.i64.wrap (a.tmod 65536 + 65536)).tmod 65536 = a % 65536 := by
      have e1 : a.tmod 65536 = a % 65536 ∨ a.tmod 65536 = a % 65536 - 65536 := by
        rcases Int.lt_or_le a 0 with h | h
        · have := Int.tmod_eq_emod_of_nonneg (a := -a) (b := 65536) (by omega)
          rw [Int.neg_tmod] at this; omega
        · left; exact Int.tmod_eq_emod_of_nonneg h
      rw [wrap_i64_id _ (by omega), Int.tmod_eq_emod_of_nonneg (by omega)]
      omega
    have b0 : 0 ≤ a % 65536 ∧ a % 65536 < 65536 := by omega
    simp only [Tr.holds, decide_eq_true_eq, decide_eq_false_iff_not, ea, and_is, true_and, and_true, and_self, tab_len, show ∀ x : Int, x.fdiv (2 ^ 14) = x / 16384 from fun x => fdiv_pow x 14, num_mk, show rotF (num v.X) (num v.Y) a = rotM (a % 65536) (num v.X) (num v.Y) from rfl]
    generalize a % 65536 = m at *
    refine ⟨⟨⟨by omega, by omega⟩, hv, rfl⟩, ?_⟩
    rintro ⟨i, u⟩ ⟨hi, hu, hr⟩
    simp only at hi hu hr ⊢
    refine ⟨fun h14 => ?_, fun h14 => ⟨⟨⟨by omega, by omega⟩, hu, (num u.X, num u.Y), ?_, ?_⟩, ?_⟩⟩
    · have hw : IntKind.i64.wrap (13 - i) = 13 - i := wrap_i64_id _ (by omega)
      have hw1 : IntKind.i64.wrap (i + 1) = i + 1 := wrap_i64_id _ (by omega)
      obtain ⟨k, rfl⟩ : ∃ k : Nat, i = k := ⟨i.toNat, by omega⟩
      have hk : k < 14 := by omega
      have e1 : ((k : Int) + 1).toNat = k + 1 := by omega
      have e2 : min (13 - (k : Int)).toNat 64 = 13 - k := by omega
      rw [hw, hw1, e1, e2, Int.toNat_natCast, tab_get k hk]
      rw [Int.toNat_natCast] at hr
      have hbit : ∀ b : Bool, (andI (m / 2 ^ (13 - k)) 1 == 1) = b ↔ (m / 2 ^ (13 - k) % 2 == 0) = !b := by
        intro b
        have hq : 0 ≤ m / 2 ^ (13 - k) := Int.ediv_nonneg b0.1 (Int.le_of_lt (two_pos _))
        have hq2 : m / 2 ^ (13 - k) ≤ m := Int.ediv_le_self _ b0.1
        rw [andI_1 _ (by omega)]
        have : m / 2 ^ (13 - k) % 2 = 0 ∨ m / 2 ^ (13 - k) % 2 = 1 := by omega
        rcases this with h | h <;> rw [h] <;> cases b <;> decide
      have hidx : (decide (0 ≤ (k : Int)) && decide ((k : Int) < ((14 : Nat) : Int))) = true := by
        rw [Bool.and_eq_true, decide_eq_true_iff, decide_eq_true_iff]; omega
      have hidx2 : Nat.blt k 14 = true := by rw [Nat.blt_eq]; omega
      have step : ∀ z, byF (num u.X) (num u.Y) (tabX k) (tabY k) = z → (m / 2 ^ (13 - k) % 2 == 0) = false → rotL m (num v.X) (num v.Y) (k + 1) = z := fun z hz hb => by rw [rotL_by hr hb]; exact hz
      simp only [and_isI, fdiv_pow, hbit, hidx, hidx2, true_and, tab_num, Bool.not_true, Bool.not_false]
      refine ⟨by omega, fun hb => ⟨hidx, ⟨hu, tab_ok k⟩, fun he => ?_, fun he => ⟨⟨⟨by omega, by omega⟩, ⟨okF_mk _, okF_mk _⟩, ?_⟩, by omega⟩⟩, fun hb => ⟨⟨⟨by omega, by omega⟩, hu, rotL_skip hr hb⟩, by omega⟩⟩
      · have h1 := step _ (EW_err he) hb
        rw [EW_err he, rotM_err (by omega) h1]; rfl
      · exact step _ (EW_ok he) hb
    · have : i = 14 := by omega
      subst this; exact hr
    · rw [Int.sub_self]; rfl
    · rintro ⟨q, t⟩ ⟨hq, ht, w, hw, hqt⟩
      simp only at hq ht hqt ⊢
      have e1 : num t.X = (qt w (m / 16384 - q).toNat).1 := congrArg (·.1) hqt
      have e2 : num t.Y = (qt w (m / 16384 - q).toNat).2 := congrArg (·.2) hqt
      refine ⟨fun hp => ?_, fun hp => ?_⟩
      · have hw1 : IntKind.i64.wrap (q - 1) = q - 1 := wrap_i64_id _ (by omega)
        rw [hw1]
        haveI := ht.2.2
        refine ⟨ht.2, ⟨⟨by omega, by omega⟩, ⟨okF_mk _, ht.1⟩, w, hw, ?_⟩, by omega⟩
        rw [show (m / 16384 - (q - 1)).toNat = (m / 16384 - q).toNat + 1 from by omega, e1, e2]; rfl
      · have : q = 0 := by omega
        subst this
        rw [rotM_ok hw, Int.sub_zero] at *
        rw [← hqt]
        show (t, (0 : Int)) = (⟨mkx (num t.X), mkx (num t.Y)⟩, 0)
        rw [mk_num _ ht.1.1, mk_num _ ht.2.1]
def L7b : List (Ent Tryd.prog tid TabI) := eR k_r1_By Tryd.func70 :: L7a
theorem k_r1_Rotate : C2 Tryd.prog TabI 32 cVc (cI .i64) PV.rway (fun v a => okV v ∧ -9223372036854775808 ≤ a ∧ a ≤ 9223372036854775807) fun v a => wayR (rotF (num v.X) (num v.Y) a) :=
  .ev (fun _ _ => []) mixed (mkOrc_ok (l := L7b) (x := []) trivial) Tryd.func32 (by decide) fun v a h => by
    refine ⟨?_⟩
    have e : evPure Tryd.prog (mkOrc L7b []) Tryd.f32 [] [cVc.enc v, (cI .i64).enc a] =
      Tr.chk true (Tr.chk (decide (tabV = tabV ∧ okV v ∧ (-9223372036854775808 : Int) ≤ a ∧ a ≤ (9223372036854775807 : Int))) (Tr.ret (PV.rway (wayR (rotF (num v.X) (num v.Y) a))))) := by kernel_rfl
    rw [e]; clear e
    simp only [Tr.holds, decide_eq_true_eq]
    exact ⟨trivial, ⟨trivial, h⟩, trivial⟩
def L7c : List (Ent Tryd.prog tid TabI) := e2 k_r1_Rotate Tryd.func32 :: L7b
theorem k_r1_OfAngle : C1 Tryd.prog TabI 31 (cI .i64) cVc.enc (fun a => -9223372036854775808 ≤ a ∧ a ≤ 9223372036854775807) fun a => ⟨mkx (valX (ofF a)), mkx (valY (ofF a))⟩ :=
  .ev (fun _ => []) mixed (mkOrc_ok (l := L7c) (x := []) trivial) Tryd.func31 (by decide) fun a h => by
    refine ⟨?_⟩
    have e : evPure Tryd.prog (mkOrc L7c []) Tryd.f31 [] [(cI .i64).enc a] =
      Tr.chk true (Tr.chk (decide (okV { X := mkx ((1 : Int) * (18446744073709551616 : Int)), Y := { h := (0 : Int), l := (0 : Int) } } ∧ (-9223372036854775808 : Int) ≤ a ∧ a ≤ (9223372036854775807 : Int))) (Tr.ret (Cod.enc cVc { X := mkx (valX (rotF (num (mkx ((1 : Int) * (18446744073709551616 : Int)))) (num { h := (0 : Int), l := (0 : Int) }) a)), Y := mkx (valY (rotF (num (mkx ((1 : Int) * (18446744073709551616 : Int)))) (num { h := (0 : Int), l := (0 : Int) }) a)) }))) := by kernel_rfl
    rw [e]; clear e
    simp only [Tr.holds, decide_eq_true_eq]
    rw [show num (mkx (1 * 18446744073709551616)) = 18446744073709551616 from num_mk _, show num (⟨0, 0⟩ : Fx) = 0 from num_lo 0]
    exact ⟨trivial, ⟨⟨okF_mk 18446744073709551616, ⟨⟨by decide⟩, ⟨by decide⟩⟩⟩, h⟩, rfl⟩
def L7 : List (Ent Tryd.prog tid TabI) := e1 k_r1_OfAngle Tryd.func31 :: L7c
end Go.Proofs.YtpbklojdmkpkcaaDoor
