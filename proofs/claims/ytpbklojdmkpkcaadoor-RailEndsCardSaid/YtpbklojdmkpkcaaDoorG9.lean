import Derived.Test.YtpbklojdmkpkcaaDoorG8
/- The reference's wide numbers: products, words; as contracts. -/
namespace Go.Proofs.YtpbklojdmkpkcaaDoor
open Go Go.RowKit
set_option linter.unusedVariables false
set_option linter.unusedSimpArgs false
set_option maxRecDepth 100000
abbrev wu (x : Int) : Int := IntKind.u64.wrap x
abbrev andU (x y : Int) : Int := IntKind.u64.wrap ↑(BitVec.ofInt 64 x &&& BitVec.ofInt 64 y).toNat
abbrev orU (x y : Int) : Int := IntKind.u64.wrap ↑(BitVec.ofInt 64 x ||| BitVec.ofInt 64 y).toNat
theorem wu_id (x : Int) (h : 0 ≤ x ∧ x < 18446744073709551616) : wu x = x := by unfold wu; rw [IntKind.wrap_u64]; omega
theorem bv_toNat (x : Int) (h : 0 ≤ x ∧ x < 18446744073709551616) : (BitVec.ofInt 64 x).toNat = x.toNat := by
  simp only [BitVec.toNat_ofInt]
  congr 1
  simp only [Nat.reducePow]
  omega
theorem and32 (x : Int) (h : 0 ≤ x ∧ x < 18446744073709551616) : andU x 4294967295 = x % 4294967296 := by
  unfold andU
  rw [BitVec.toNat_and, bv_toNat x h, bv_toNat 4294967295 (by decide)]
  rw [show (4294967295 : Int).toNat = 2 ^ 32 - 1 from rfl, Nat.and_two_pow_sub_one_eq_mod, IntKind.wrap_u64]
  omega
theorem or32 (q y : Int) (hq : 0 ≤ q ∧ q < 4294967296) (hy : 0 ≤ y ∧ y < 4294967296) : orU (q * 4294967296) y = q * 4294967296 + y := by
  unfold orU
  rw [BitVec.toNat_or, bv_toNat _ (by omega), bv_toNat y (by omega)]
  obtain ⟨n, rfl⟩ : ∃ n : Nat, q = n := ⟨q.toNat, by omega⟩
  obtain ⟨k, rfl⟩ : ∃ n : Nat, y = n := ⟨y.toNat, by omega⟩
  have e1 : ((n : Int) * 4294967296).toNat = 2 ^ 32 * n := by omega
  rw [e1, Int.toNat_natCast, ← Nat.two_pow_add_eq_or_of_lt (by omega), IntKind.wrap_u64]
  omega
def prodS (a b : Int) : Fx :=
  ⟨wu (wu (wu (a.fdiv (2 ^ 32) * b.fdiv (2 ^ 32)) + (wu (wu (a.fdiv (2 ^ 32) * andU b 4294967295) + (wu (andU a 4294967295 * andU b 4294967295)).fdiv (2 ^ 32))).fdiv (2 ^ 32)) +
      (wu (wu (andU a 4294967295 * b.fdiv (2 ^ 32)) + andU (wu (wu (a.fdiv (2 ^ 32) * andU b 4294967295) + (wu (andU a 4294967295 * andU b 4294967295)).fdiv (2 ^ 32))) 4294967295)).fdiv (2 ^ 32)),
    orU (wu (wu (wu (andU a 4294967295 * b.fdiv (2 ^ 32)) + andU (wu (wu (a.fdiv (2 ^ 32) * andU b 4294967295) + (wu (andU a 4294967295 * andU b 4294967295)).fdiv (2 ^ 32))) 4294967295) * 2 ^ 32)) (andU (wu (andU a 4294967295 * andU b 4294967295)) 4294967295)⟩
theorem mul_bd {a b n : Int} (ha : 0 ≤ a ∧ a ≤ n) (hb : 0 ≤ b ∧ b ≤ n) : 0 ≤ a * b ∧ a * b ≤ n * n :=
  ⟨Int.mul_nonneg ha.1 hb.1, Int.mul_le_mul ha.2 hb.2 hb.1 (by omega)⟩
theorem prodS_ok (a b : Int) [ha : U a] [hb : U b] : prodS a b = mkx (a * b) := by
  have ha := ha.h
  have hb := hb.h
  unfold prodS
  rw [and32 a ha, and32 b hb]
  simp only [show ∀ x : Int, x.fdiv (2 ^ 32) = x / 4294967296 from fun x => Int.fdiv_eq_ediv_of_nonneg x (by decide)]
  have e : a * b = (a / 4294967296 * 4294967296 + a % 4294967296) * (b / 4294967296 * 4294967296 + b % 4294967296) := by
    rw [show a / 4294967296 * 4294967296 + a % 4294967296 = a from by omega, show b / 4294967296 * 4294967296 + b % 4294967296 = b from by omega]
  rw [e]
  have h1 : 0 ≤ a / 4294967296 ∧ a / 4294967296 ≤ 4294967295 := by omega
  have h0 : 0 ≤ a % 4294967296 ∧ a % 4294967296 ≤ 4294967295 := by omega
  have g1 : 0 ≤ b / 4294967296 ∧ b / 4294967296 ≤ 4294967295 := by omega
  have g0 : 0 ≤ b % 4294967296 ∧ b % 4294967296 ≤ 4294967295 := by omega
  generalize a / 4294967296 = a1 at *
  generalize a % 4294967296 = a0 at *
  generalize b / 4294967296 = b1 at *
  generalize b % 4294967296 = b0 at *
  clear e ha hb
  have k11 := mul_bd h1 g1
  have k10 := mul_bd h1 g0
  have k01 := mul_bd h0 g1
  have k00 := mul_bd h0 g0
  have e : (a1 * 4294967296 + a0) * (b1 * 4294967296 + b0) = a1 * b1 * 18446744073709551616 + (a1 * b0 + a0 * b1) * 4294967296 + a0 * b0 := by
    rw [Int.add_mul, Int.mul_add, Int.mul_add]
    rw [show a1 * 4294967296 * (b1 * 4294967296) = a1 * b1 * 18446744073709551616 from by rw [Int.mul_right_comm, ← Int.mul_assoc a1 b1, Int.mul_assoc (a1 * b1)]; rfl]
    rw [show a1 * 4294967296 * b0 = a1 * b0 * 4294967296 from by rw [Int.mul_right_comm]]
    rw [← Int.mul_assoc a0 b1]
    omega
  rw [e]
  clear e
  generalize a1 * b1 = p11 at *
  generalize a1 * b0 = p10 at *
  generalize a0 * b1 = p01 at *
  generalize a0 * b0 = p00 at *
  clear h1 h0 g1 g0
  simp only [Int.reduceMul] at k11 k10 k01 k00
  rw [wu_id p11 (by omega), wu_id p10 (by omega), wu_id p01 (by omega), wu_id p00 (by omega)]
  rw [wu_id (p10 + p00 / 4294967296) (by omega), and32 _ (by omega), wu_id (p01 + (p10 + p00 / 4294967296) % 4294967296) (by omega), and32 p00 (by omega)]
  rw [wu_id (p11 + (p10 + p00 / 4294967296) / 4294967296) (by omega), wu_id _ (by omega)]
  unfold mkx hi lo
  have e2 : wu ((p01 + (p10 + p00 / 4294967296) % 4294967296) * 2 ^ 32) = (p01 + (p10 + p00 / 4294967296) % 4294967296) % 4294967296 * 4294967296 := by
    unfold wu; rw [IntKind.wrap_u64]; omega
  rw [e2, or32 _ _ (by omega) (by omega)]
  congr 1 <;> omega
def E0 : List (Ent Tryd.prog tid TabI) := []
theorem k_r1_product : C2 Tryd.prog TabI 111 (cI .u64) (cI .u64) cTw.enc (fun a b => U a ∧ U b) fun a b => mkx (a * b) :=
  .ev (fun _ _ => []) mixed (mkOrc_ok (l := E0) (x := []) trivial) Tryd.func111 (by decide) fun a b h => by
    refine ⟨?_⟩
    have e : evPure Tryd.prog (mkOrc E0 []) Tryd.f111 [] [(cI .u64).enc a, (cI .u64).enc b] =
      .chk (decide ((0 : Int) ≤ 32)) (.chk (decide ((0 : Int) ≤ 32)) (.chk (decide ((0 : Int) ≤ 32)) (.chk (decide ((0 : Int) ≤ 32)) (.chk (decide ((0 : Int) ≤ 32)) (.chk (decide ((0 : Int) ≤ 32)) (.ret (cTw.enc (prodS a b)))))))) := by kernel_rfl
    rw [e]
    haveI := h.1; haveI := h.2
    rw [prodS_ok]
    exact ⟨by decide, by decide, by decide, by decide, by decide, by decide, rfl⟩
/-- Four words. -/
def num4 (a : Vc) : Int := num a.X * 340282366920938463463374607431768211456 + num a.Y
def mk4 (n : Int) : Vc := ⟨mkx (n / 340282366920938463463374607431768211456), mkx (n % 340282366920938463463374607431768211456)⟩
def ok4 (a : Vc) : Prop := okT a.X ∧ okT a.Y
theorem num_T (a : Fx) (h : okT a) : 0 ≤ num a ∧ num a < 340282366920938463463374607431768211456 := by
  have h1 := h.1.h
  have h2 := h.2.h
  unfold num val2; omega
theorem okT_mk (n : Int) (h : 0 ≤ n ∧ n < 340282366920938463463374607431768211456) : okT (mkx n) := ⟨⟨by show 0 ≤ hi n ∧ hi n < _; unfold hi; omega⟩, lo_U n⟩
theorem ok4_mk (n : Int) (h : 0 ≤ n ∧ n < 115792089237316195423570985008687907853269984665640564039457584007913129639936) : ok4 (mk4 n) := ⟨okT_mk _ (by omega), okT_mk _ (by omega)⟩
instance (a : Vc) : Decidable (ok4 a) := inferInstanceAs (Decidable (okT a.X ∧ okT a.Y))
theorem num4_mk (n : Int) : num4 (mk4 n) = n := by unfold num4 mk4; rw [num_mk, num_mk]; omega
theorem mk4_num (a : Vc) (h : ok4 a) : mk4 (num4 a) = a := by
  have h1 := num_T a.X h.1
  have h2 := num_T a.Y h.2
  unfold mk4 num4
  rw [show (num a.X * 340282366920938463463374607431768211456 + num a.Y) / 340282366920938463463374607431768211456 = num a.X from by omega, show (num a.X * 340282366920938463463374607431768211456 + num a.Y) % 340282366920938463463374607431768211456 = num a.Y from by omega, mk_num _ h.1.2, mk_num _ h.2.2]
def plusS (a : Vc) (b : Fx) (c : Bool) : Vc := mk4 ((num4 a + num b * (bif c then 18446744073709551616 else 340282366920938463463374607431768211456)) % 115792089237316195423570985008687907853269984665640564039457584007913129639936)
theorem num_lo (x : Int) : num ⟨0, x⟩ = x := by show 0 * 18446744073709551616 + x = x; omega
theorem num_hi (x : Int) : num ⟨x, 0⟩ = x * 18446744073709551616 := by show x * 18446744073709551616 + 0 = x * 18446744073709551616; omega
theorem okT_lo (x : Int) (h : U x) : okT ⟨0, x⟩ := ⟨(inferInstance : U 0), h⟩
theorem okT_hi (x : Int) (h : U x) : okT ⟨x, 0⟩ := ⟨h, (inferInstance : U 0)⟩
abbrev m2 (n : Int) : Int := n % 340282366920938463463374607431768211456
theorem k_r1_plus : C3 Tryd.prog TabI 112 cFo cTw cB cFo.enc (fun a b _ => ok4 a ∧ okT b) plusS :=
  .ev (fun _ _ _ => []) mixed (mkOrc_ok (l := L0) (x := []) trivial) Tryd.func112 (by decide) fun a b c h => by
    refine ⟨?_⟩
    have e : evPure Tryd.prog (mkOrc L0 []) Tryd.f112 [] [cFo.enc a, cTw.enc b, cB.enc c] =
      .ite (!c) (.chk (decide (okT a.X ∧ okT b)) (.ret (cFo.enc ⟨mkx (m2 (num a.X + num b)), a.Y⟩)))
        (.chk (decide (okT a.Y ∧ okT ⟨b.l, 0⟩)) (.ite (decide ((340282366920938463463374607431768211456 : Int) ≤ num a.Y + num ⟨b.l, 0⟩))
          (.chk (decide (okT ⟨0, b.h⟩ ∧ okT ⟨0, 1⟩)) (.chk (decide (okT a.X ∧ okT (mkx (m2 (num ⟨0, b.h⟩ + num ⟨0, 1⟩))))) (.ret (cFo.enc ⟨mkx (m2 (num a.X + num (mkx (m2 (num ⟨0, b.h⟩ + num ⟨0, 1⟩))))), mkx (m2 (num a.Y + num ⟨b.l, 0⟩))⟩))))
          (.chk (decide (okT a.X ∧ okT ⟨0, b.h⟩)) (.ret (cFo.enc ⟨mkx (m2 (num a.X + num ⟨0, b.h⟩)), mkx (m2 (num a.Y + num ⟨b.l, 0⟩))⟩))))) := by kernel_rfl
    rw [e]
    clear e
    obtain ⟨ha, hb⟩ := h
    have t1 := num_T _ ha.1
    have t2 := num_T _ ha.2
    have t3 := num_T _ hb
    have u1 := hb.1.h
    have u2 := hb.2.h
    have eb : num b = b.h * 18446744073709551616 + b.l := rfl
    simp only [Tr.holds, num_lo, num_hi, num_mk, decide_eq_true_eq]
    have fin : ∀ x y : Int, ∀ v : Vc, v = mk4 (x * 340282366920938463463374607431768211456 + y) → cFo.enc v = cFo.enc (mk4 (x * 340282366920938463463374607431768211456 + y)) := fun x y v h => by rw [h]
    refine ⟨fun hc => ⟨⟨ha.1, hb⟩, ?_⟩, fun hc => ⟨⟨ha.2, okT_hi _ hb.2⟩, fun hd => ⟨⟨okT_lo _ hb.1, okT_lo _ (inferInstance : U 1)⟩, ⟨ha.1, okT_mk _ (by unfold m2; omega)⟩, ?_⟩, fun hd => ⟨⟨ha.1, okT_lo _ hb.1⟩, ?_⟩⟩⟩
    · have hc : c = false := by simpa using hc
      subst hc
      refine congrArg cFo.enc ?_
      unfold plusS mk4 num4
      rw [cond_false]
      congr 1
      · congr 1; unfold m2; omega
      · rw [← mk_num a.Y ha.2.2]; congr 1; rw [num_mk]; omega
    · have hc : c = true := by simpa using hc
      subst hc
      (try rw [decide_eq_true_iff] at hd)
      refine congrArg cFo.enc ?_
      unfold plusS mk4 num4
      rw [cond_true]
      congr 1 <;> (congr 1; unfold m2; omega)
    · have hc : c = true := by simpa using hc
      subst hc
      (try rw [decide_eq_false_iff_not] at hd)
      refine congrArg cFo.enc ?_
      unfold plusS mk4 num4
      rw [cond_true]
      congr 1 <;> (congr 1; unfold m2; omega)
def L1 : List (Ent Tryd.prog tid TabI) := e2 k_r1_product Tryd.func111 :: e3 k_r1_plus Tryd.func112 :: L0
end Go.Proofs.YtpbklojdmkpkcaaDoor
/- The reference's wide numbers: MulTwo, words, four, bit, CmpFour; as contracts. -/
namespace Go.Proofs.YtpbklojdmkpkcaaDoor
open Go Go.RowKit
set_option linter.unusedVariables false
set_option linter.unusedSimpArgs false
set_option maxRecDepth 100000
theorem num_of (a : Fx) : num a = a.h * 18446744073709551616 + a.l := rfl
theorem plus_num (a : Vc) (b : Fx) (c : Bool) : num4 (plusS a b c) = (num4 a + num b * (bif c then 18446744073709551616 else 340282366920938463463374607431768211456)) % 115792089237316195423570985008687907853269984665640564039457584007913129639936 := num4_mk _
theorem plus_ok (a : Vc) (b : Fx) (c : Bool) : ok4 (plusS a b c) := ok4_mk _ (by omega)
theorem U_mul (a b : Int) (h : U a) (k : U b) : 0 ≤ a * b ∧ a * b < 340282366920938463463374607431768211456 := by
  have := mul_bd (n := 18446744073709551615) ⟨h.h.1, by have := h.h; omega⟩ ⟨k.h.1, by have := k.h; omega⟩
  omega
theorem k_r1_MulTwo : C2 Tryd.prog TabI 74 cTw cTw cFo.enc (fun a b => okT a ∧ okT b) fun a b => mk4 (num a * num b) :=
  .ev (fun _ _ => []) mixed (mkOrc_ok (l := L1) (x := []) trivial) Tryd.func74 (by decide) fun a b h => by
    refine ⟨?_⟩
    have e : evPure Tryd.prog (mkOrc L1 []) Tryd.f74 [] [cTw.enc a, cTw.enc b] =
      Tr.chk (decide (U a.l ∧ U b.l)) (Tr.chk (decide (U a.h ∧ U b.h)) (Tr.chk (decide (ok4 { X := { h := (0 : Int), l := (0 : Int) }, Y := mkx (a.l * b.l) } ∧ okT (mkx (a.h * b.h)))) (Tr.chk (decide (U a.h ∧ U b.l)) (Tr.chk (decide (ok4 (plusS { X := { h := (0 : Int), l := (0 : Int) }, Y := mkx (a.l * b.l) } (mkx (a.h * b.h)) false) ∧ okT (mkx (a.h * b.l)))) (Tr.chk (decide (U a.l ∧ U b.h)) (Tr.chk (decide (ok4 (plusS (plusS { X := { h := (0 : Int), l := (0 : Int) }, Y := mkx (a.l * b.l) } (mkx (a.h * b.h)) false) (mkx (a.h * b.l)) true) ∧ okT (mkx (a.l * b.h)))) (Tr.ret (@Cod.enc Vc cFo (plusS (plusS (plusS { X := { h := (0 : Int), l := (0 : Int) }, Y := mkx (a.l * b.l) } (mkx (a.h * b.h)) false) (mkx (a.h * b.l)) true) (mkx (a.l * b.h)) true))))))))) := by kernel_rfl
    rw [e]; clear e
    simp only [Tr.holds, decide_eq_true_eq]
    obtain ⟨ha, hb⟩ := h
    have e0 : ∀ n, num4 ⟨⟨0, 0⟩, mkx n⟩ = n := fun n => by show num ⟨0, 0⟩ * _ + num (mkx n) = n; rw [num_lo, num_mk]; omega
    have p1 := U_mul _ _ ha.2 hb.2
    have p2 := U_mul _ _ ha.1 hb.1
    have p3 := U_mul _ _ ha.1 hb.2
    have p4 := U_mul _ _ ha.2 hb.1
    refine ⟨⟨ha.2, hb.2⟩, ⟨ha.1, hb.1⟩, ⟨⟨okT_lo _ (inferInstance : U 0), okT_mk _ p1⟩, okT_mk _ p2⟩, ⟨ha.1, hb.2⟩, ⟨plus_ok _ _ _, okT_mk _ p3⟩, ⟨ha.2, hb.1⟩, ⟨plus_ok _ _ _, okT_mk _ p4⟩, congrArg cFo.enc ?_⟩
    rw [← mk4_num (plusS _ _ _) (plus_ok _ _ _)]
    congr 1
    rw [plus_num, plus_num, plus_num, e0, num_mk, num_mk, num_mk, num_of a, num_of b, cond_true, cond_false]
    have e : (a.h * 18446744073709551616 + a.l) * (b.h * 18446744073709551616 + b.l) = a.h * b.h * 340282366920938463463374607431768211456 + a.h * b.l * 18446744073709551616 + a.l * b.h * 18446744073709551616 + a.l * b.l := by
      rw [Int.add_mul, Int.mul_add, Int.mul_add]
      rw [show a.h * 18446744073709551616 * (b.h * 18446744073709551616) = a.h * b.h * 340282366920938463463374607431768211456 from by rw [Int.mul_right_comm, ← Int.mul_assoc a.h b.h, Int.mul_assoc (a.h * b.h)]; rfl]
      rw [show a.h * 18446744073709551616 * b.l = a.h * b.l * 18446744073709551616 from by rw [Int.mul_right_comm]]
      rw [← Int.mul_assoc a.l b.h]
      omega
    rw [e]
    have hab := mul_bd (n := 340282366920938463463374607431768211455) ⟨(num_T a ha).1, by have := num_T a ha; omega⟩ ⟨(num_T b hb).1, by have := num_T b hb; omega⟩
    rw [num_of a, num_of b, e] at hab
    clear e e0
    simp only [Int.reduceMul] at hab
    generalize a.h * b.h = q1 at *
    generalize a.h * b.l = q2 at *
    generalize a.l * b.h = q3 at *
    generalize a.l * b.l = q4 at *
    omega
def wordsS (a : Vc) : List Int := [a.Y.l, a.Y.h, a.X.l, a.X.h]
theorem k_r1_words : CR Tryd.prog tid TabI 113 (aPlain cFo) (aRow .u64) [] (fun _ => True) wordsS :=
  .ev (fun _ => []) mixed (mkOrc_ok (l := L1) (x := []) trivial) Tryd.func113 (fun _ => Nat.le_of_ble_eq_true rfl) rfl fun a h => by
    refine ⟨?_⟩
    have e : evR Tryd.prog (mkOrc L1 []) Tryd.f113 [] (aPlain cFo) (aRow .u64) [] a =
      Tr.ret [a.Y.l, a.Y.h, a.X.l, a.X.h] := by kernel_rfl
    rw [e]; clear e
    rfl
def fourS (w : List Int) : Vc := ⟨⟨w.getD 3 0, w.getD 2 0⟩, ⟨w.getD 1 0, w.getD 0 0⟩⟩
theorem k_r1_four : CR Tryd.prog tid TabI 114 (aRow .u64) (aPlain cFo) [] (fun w => w.length = 4) fourS :=
  .ev (fun _ => []) mixed (mkOrc_ok (l := L1) (x := []) trivial) Tryd.func114 (fun _ => Nat.le_of_ble_eq_true rfl) rfl fun a h => by
    refine ⟨?_⟩
    have e : evR Tryd.prog (mkOrc L1 []) Tryd.f114 [] (aRow .u64) (aPlain cFo) [] a =
      Tr.chk (true && decide ((3 : Int) < ↑a.length)) (Tr.chk (Nat.blt (3 : Nat) a.length) (Tr.chk (true && decide ((2 : Int) < ↑a.length)) (Tr.chk (Nat.blt (2 : Nat) a.length) (Tr.chk (true && decide ((1 : Int) < ↑a.length)) (Tr.chk (Nat.blt (1 : Nat) a.length) (Tr.chk (true && decide ((0 : Int) < ↑a.length)) (Tr.chk (Nat.blt (0 : Nat) a.length) (Tr.ret { X := { h := a.getD (3 : Nat) ET.u64.dflt, l := a.getD (2 : Nat) ET.u64.dflt }, Y := { h := a.getD (1 : Nat) ET.u64.dflt, l := a.getD (0 : Nat) ET.u64.dflt } })))))))) := by kernel_rfl
    rw [e]; clear e
    simp only [Tr.holds, Bool.and_eq_true, decide_eq_true_eq, Nat.blt_eq]
    refine ⟨⟨trivial, by omega⟩, by omega, ⟨trivial, by omega⟩, by omega, ⟨trivial, by omega⟩, by omega, ⟨trivial, by omega⟩, by omega, rfl⟩
def L2 : List (Ent Tryd.prog tid TabI) := e2 k_r1_MulTwo Tryd.func74 :: eR k_r1_words Tryd.func113 :: eR k_r1_four Tryd.func114 :: L1
end Go.Proofs.YtpbklojdmkpkcaaDoor
/- The reference's wide numbers: CmpFour, bit; as contracts. -/
namespace Go.Proofs.YtpbklojdmkpkcaaDoor
open Go Go.RowKit
set_option linter.unusedVariables false
set_option linter.unusedSimpArgs false
set_option maxRecDepth 100000
def cmpS (x y : Int) : Int := if x < y then -1 else if y < x then 1 else 0
theorem num4_words (a : Vc) : num4 a = a.X.h * 6277101735386680763835789423207666416102355444464034512896 + a.X.l * 340282366920938463463374607431768211456 + a.Y.h * 18446744073709551616 + a.Y.l := by
  unfold num4 num val2; omega
/-- An element is read. -/
def nd {α : Type} (l : List Int) (x : Int) (t : Tr α) : Tr α := .chk (decide (0 ≤ x) && decide (x < (l.length : Int))) (.chk (Nat.blt x.toNat l.length) t)
theorem nd_holds {α : Type} {l : List Int} {x : Int} {t : Tr α} {Q : α → Prop} : (nd l x t).holds Q ↔ (0 ≤ x ∧ x < (l.length : Int)) ∧ t.holds Q := by
  unfold nd
  simp only [Tr.holds, Bool.and_eq_true, decide_eq_true_eq, Nat.blt_eq]
  exact ⟨fun h => ⟨h.1, h.2.2⟩, fun h => ⟨h.1, by omega, h.2⟩⟩
def same4 (a b : Vc) (x : Int) : Prop := (-1 ≤ x ∧ x ≤ 3) ∧ (x < 3 → a.X.h = b.X.h) ∧ (x < 2 → a.X.l = b.X.l) ∧ (x < 1 → a.Y.h = b.Y.h) ∧ (x < 0 → a.Y.l = b.Y.l)
theorem k_r1_CmpFour' (a b : Vc) (h : ok4 a ∧ ok4 b) : Good (evPure Tryd.prog (mkOrc L2 []) Tryd.f141 [intLoop 7 (same4 a b) fun i => (i + 1).toNat] [cFo.enc a, cFo.enc b]) fun r => r = (cI .i64).enc (cmpS (num4 a) (num4 b)) := by
  refine ⟨?_⟩
  have e : evPure Tryd.prog (mkOrc L2 []) Tryd.f141 [intLoop 7 (same4 a b) fun i => (i + 1).toNat] [cFo.enc a, cFo.enc b] =
    .chk true (.chk true (.need ((3 : Int) = 3 ∧ True) (.need True (.need (same4 a b 3) (.all Int (same4 a b) fun x => .ite (decide (x ≥ 0))
      (nd (wordsS a) x (nd (wordsS b) x (.ite (decide ((wordsS a).getD x.toNat 0 < (wordsS b).getD x.toNat 0)) (.ret ((cI .i64).enc (-1)))
        (nd (wordsS a) x (nd (wordsS b) x (.ite (decide ((wordsS a).getD x.toNat 0 > (wordsS b).getD x.toNat 0)) (.ret ((cI .i64).enc 1))
          (.need (IntKind.i64.wrap (x - 1) = IntKind.i64.wrap (x - 1) ∧ True) (.need True (.need (same4 a b (IntKind.i64.wrap (x - 1))) (.need ((IntKind.i64.wrap (x - 1) + 1).toNat < (x + 1).toNat) .done))))))))))
      (.ret ((cI .i64).enc 0))))))) := by kernel_rfl
  rw [e]
  clear e
  obtain ⟨⟨⟨a1, a2⟩, a3, a4⟩, ⟨b1, b2⟩, b3, b4⟩ := h
  have a1 := a1.h; have a2 := a2.h; have a3 := a3.h; have a4 := a4.h
  have b1 := b1.h; have b2 := b2.h; have b3 := b3.h; have b4 := b4.h
  refine ⟨rfl, rfl, ⟨rfl, trivial⟩, trivial, ⟨by omega, fun h => absurd h (by decide), fun h => absurd h (by decide), fun h => absurd h (by decide), fun h => absurd h (by decide)⟩, fun x hx => ?_⟩
  obtain ⟨hx, e3, e2, e1, e0⟩ := hx
  have hlen : (wordsS a).length = 4 ∧ (wordsS b).length = 4 := ⟨rfl, rfl⟩
  have wr : IntKind.i64.wrap (x - 1) = x - 1 := by rw [IntKind.wrap_i64]; omega
  have goal : ∀ r : Int, r = cmpS (num4 a) (num4 b) → (cI .i64).enc r = (cI .i64).enc (cmpS (num4 a) (num4 b)) := fun r h => by rw [h]
  simp only [Tr.holds, nd_holds, hlen.1, hlen.2, wr, decide_eq_true_eq, decide_eq_false_iff_not]
  have c : x = 0 ∨ x = 1 ∨ x = 2 ∨ x = 3 ∨ x < 0 := by omega
  refine ⟨fun h0 => ⟨by omega, by omega, fun hl => goal _ ?_, fun hl => ⟨by omega, by omega, fun hg => goal _ ?_, fun hg => ⟨⟨trivial, trivial⟩, trivial, ?_, by omega, trivial⟩⟩⟩, fun h0 => goal _ ?_⟩
  all_goals (try rw [num4_words a, num4_words b])
  · unfold cmpS
    rcases c with rfl | rfl | rfl | rfl | c <;> simp [wordsS] at hl <;> (try omega) <;> (rw [if_pos (by omega)])
  · unfold cmpS
    rcases c with rfl | rfl | rfl | rfl | c <;> simp [wordsS] at hg <;> (try omega) <;> (rw [if_neg (by omega), if_pos (by omega)])
  · rcases c with rfl | rfl | rfl | rfl | c <;> simp [wordsS] at hl hg <;> (try omega) <;> (refine ⟨by omega, ?_, ?_, ?_, ?_⟩ <;> intro _ <;> omega)
  · unfold cmpS
    rw [if_neg (by omega), if_neg (by omega)]
theorem k_r1_CmpFour : C2 Tryd.prog TabI 141 cFo cFo (cI .i64).enc (fun a b => ok4 a ∧ ok4 b) fun a b => cmpS (num4 a) (num4 b) :=
  .ev (fun a b => [intLoop 7 (same4 a b) fun i => (i + 1).toNat]) mixed (mkOrc_ok (l := L2) (x := []) trivial) Tryd.func141 (by decide) k_r1_CmpFour'
end Go.Proofs.YtpbklojdmkpkcaaDoor
/- The reference's wide numbers: one bit, shifts, the sign; as contracts. -/
namespace Go.Proofs.YtpbklojdmkpkcaaDoor
open Go Go.RowKit
set_option linter.unusedVariables false
set_option linter.unusedSimpArgs false
set_option maxRecDepth 100000
theorem two_pos (k : Nat) : (0 : Int) < 2 ^ k := Int.pow_pos (by decide)
/-- A bit of one of the words is a bit of the number. -/
theorem word_bit (n : Int) (hn : 0 ≤ n) (k r : Nat) (hr : r < 64) : (n / 2 ^ k % 18446744073709551616) / 2 ^ r % 2 = n / 2 ^ (k + r) % 2 := by
  obtain ⟨m, rfl⟩ : ∃ m : Nat, n = m := ⟨n.toNat, by omega⟩
  have key : (m / 2 ^ k % 18446744073709551616) / 2 ^ r % 2 = m / 2 ^ (k + r) % 2 := by
    have e : 18446744073709551616 = 2 ^ r * 2 ^ (64 - r) := by rw [← Nat.pow_add, show r + (64 - r) = 64 from by omega]
    rw [e, Nat.mod_mul_right_div_self, Nat.div_div_eq_div_mul, ← Nat.pow_add]
    refine Nat.mod_mod_of_dvd _ ?_
    exact ⟨2 ^ (63 - r), by rw [← Nat.pow_succ']; congr 1; omega⟩
  have pw : ∀ j : Nat, (2 : Int) ^ j = ((2 ^ j : Nat) : Int) := fun j => by rw [Int.natCast_pow]; rfl
  have := congrArg (fun x : Nat => (x : Int)) key
  simp only [Int.natCast_emod, Int.natCast_ediv] at this
  rw [pw, pw, pw]
  exact this
theorem num4_bd (a : Vc) (h : ok4 a) : 0 ≤ num4 a ∧ num4 a < 115792089237316195423570985008687907853269984665640564039457584007913129639936 := by
  have h1 := num_T _ h.1
  have h2 := num_T _ h.2
  unfold num4; omega
/-- The words, lowest first. -/
theorem word_of (a : Vc) (h : ok4 a) (k : Nat) (hk : k < 4) (d : Int) : (wordsS a).getD k d = num4 a / 2 ^ (64 * k) % 18446744073709551616 := by
  obtain ⟨⟨⟨a1⟩, ⟨a2⟩⟩, ⟨a3⟩, ⟨a4⟩⟩ := h
  rw [num4_words]
  have c : k = 0 ∨ k = 1 ∨ k = 2 ∨ k = 3 := by omega
  rcases c with rfl | rfl | rfl | rfl <;> simp only [wordsS, List.getD_cons_zero, List.getD_cons_succ, Nat.mul_zero, Nat.mul_one, Nat.reduceMul, Int.reducePow, Int.pow_zero] <;> omega
theorem and1 (x : Int) (h : 0 ≤ x ∧ x < 18446744073709551616) : andU x 1 = x % 2 := by
  unfold andU
  rw [BitVec.toNat_and, bv_toNat x h, bv_toNat 1 (by decide)]
  rw [show (1 : Int).toNat = 2 ^ 1 - 1 from rfl, Nat.and_two_pow_sub_one_eq_mod, IntKind.wrap_u64]
  omega
theorem fdiv_pow (x : Int) (k : Nat) : x.fdiv (2 ^ k) = x / 2 ^ k := Int.fdiv_eq_ediv_of_nonneg x (Int.le_of_lt (two_pos k))
theorem wrap_i64_id (x : Int) (h : -9223372036854775808 ≤ x ∧ x ≤ 9223372036854775807) : IntKind.i64.wrap x = x := by rw [IntKind.wrap_i64]; omega
theorem tdiv_pos (x y : Int) (h : 0 ≤ x) : x.tdiv y = x / y := Int.tdiv_eq_ediv_of_nonneg h
theorem tmod_pos (x y : Int) (h : 0 ≤ x) : x.tmod y = x % y := Int.tmod_eq_emod_of_nonneg h
theorem mk4_is {n a b c d : Int} (hd : d = n % 18446744073709551616) (hc : c = n / 18446744073709551616 % 18446744073709551616) (hb : b = n / 340282366920938463463374607431768211456 % 18446744073709551616) (ha : a = n / 6277101735386680763835789423207666416102355444464034512896) : (⟨⟨a, b⟩, ⟨c, d⟩⟩ : Vc) = mk4 n := by
  subst hd; subst hc; subst hb; subst ha
  unfold mk4 mkx hi lo
  congr 1 <;> congr 1 <;> omega
theorem orU_add (k : Nat) (q y : Int) (hq : 0 ≤ q) (hy : 0 ≤ y ∧ y < 2 ^ k) (h : q * 2 ^ k + y < 18446744073709551616) : orU (q * 2 ^ k) y = q * 2 ^ k + y := by
  unfold orU
  have hp := two_pos k
  have h0 : 0 ≤ q * 2 ^ k := Int.mul_nonneg hq (Int.le_of_lt hp)
  rw [BitVec.toNat_or, bv_toNat _ (by omega), bv_toNat y (by omega)]
  obtain ⟨n, rfl⟩ : ∃ n : Nat, q = n := ⟨q.toNat, by omega⟩
  obtain ⟨m, rfl⟩ : ∃ n : Nat, y = n := ⟨y.toNat, by omega⟩
  have e1 : ((n : Int) * 2 ^ k).toNat = 2 ^ k * n := by
    rw [show ((n : Int) * 2 ^ k) = ((2 ^ k * n : Nat) : Int) from by push_cast; rw [Int.mul_comm]]; rfl
  have hm : m < 2 ^ k := by exact_mod_cast hy.2
  rw [e1, Int.toNat_natCast, ← Nat.two_pow_add_eq_or_of_lt hm, IntKind.wrap_u64]
  have e2 : ((2 ^ k * n + m : Nat) : Int) = (n : Int) * 2 ^ k + m := by push_cast; rw [Int.mul_comm]
  rw [e2]; omega
theorem or_is (x y : Int) : IntKind.u64.wrap ↑(BitVec.ofInt 64 x ||| BitVec.ofInt 64 y).toNat = orU x y := rfl
theorem and_is (x y : Int) : IntKind.u64.wrap ↑(BitVec.ofInt 64 x &&& BitVec.ofInt 64 y).toNat = andU x y := rfl
theorem w0_is (a : Vc) (d : Int) : (wordsS a).getD 0 d = a.Y.l := rfl
theorem w1_is (a : Vc) (d : Int) : (wordsS a).getD 1 d = a.Y.h := rfl
theorem w2_is (a : Vc) (d : Int) : (wordsS a).getD 2 d = a.X.l := rfl
theorem w3_is (a : Vc) (d : Int) : (wordsS a).getD 3 d = a.X.h := rfl
def bitS (a : Vc) (i : Int) : Int := num4 a / 2 ^ i.toNat % 2
theorem k_r1_bit : C2 Tryd.prog TabI 150 cFo (cI .i64) (cI .u64).enc (fun a i => ok4 a ∧ 0 ≤ i ∧ i ≤ 255) bitS :=
  .ev (fun _ _ => []) mixed (mkOrc_ok (l := L2) (x := []) trivial) Tryd.func150 (by decide) fun a i h => by
    refine ⟨?_⟩
    have e : evPure Tryd.prog (mkOrc L2 []) Tryd.f150 [] [cFo.enc a, (cI .i64).enc i] =
      Tr.chk (decide True) (Tr.chk true (Tr.chk (decide ((0 : Int) ≤ IntKind.i64.wrap (i.tdiv (64 : Int))) && decide (IntKind.i64.wrap (i.tdiv (64 : Int)) < ↑(wordsS a).length)) (Tr.chk ((IntKind.i64.wrap (i.tdiv (64 : Int))).toNat.blt (wordsS a).length) (Tr.chk true (Tr.chk (decide ((0 : Int) ≤ i.tmod (64 : Int))) (Tr.ret (PV.raw (Value.int IntKind.u64 (IntKind.u64.wrap ↑(BitVec.ofInt (64 : Nat) (Int.fdiv ((wordsS a).getD (IntKind.i64.wrap (i.tdiv (64 : Int))).toNat ET.u64.dflt) ((2 : Int) ^ min (i.tmod (64 : Int)).toNat (64 : Nat))) &&& BitVec.ofInt (64 : Nat) (1 : Int)).toNat))))))))) := by kernel_rfl
    rw [e]; clear e
    have hlen : (wordsS a).length = 4 := rfl
    obtain ⟨ha, h0, h1⟩ := h
    have hn := num4_bd a ha
    simp only [Tr.holds, hlen, tdiv_pos i 64 h0, tmod_pos i 64 h0, wrap_i64_id (i / 64) (by omega), and_is, fdiv_pow, Bool.and_eq_true, decide_eq_true_eq, Nat.blt_eq]
    refine ⟨trivial, trivial, ⟨by omega, by omega⟩, by omega, trivial, by omega, ?_⟩
    refine congrArg (cI .u64).enc ?_
    rw [word_of a ha _ (by omega) _, show min (i % 64).toNat 64 = (i % 64).toNat from by omega]
    have hw : 0 ≤ num4 a / 2 ^ (64 * (i / 64).toNat) % 18446744073709551616 ∧ num4 a / 2 ^ (64 * (i / 64).toNat) % 18446744073709551616 < 18446744073709551616 := by omega
    have hp := two_pos (i % 64).toNat
    rw [and1 _ ⟨Int.ediv_nonneg hw.1 (Int.le_of_lt hp), Int.lt_of_le_of_lt (Int.ediv_le_self _ hw.1) hw.2⟩, word_bit _ hn.1 _ _ (by omega)]
    unfold bitS
    rw [show 64 * (i / 64).toNat + (i % 64).toNat = i.toNat from by omega]
theorem k_r1_Shl64 (a : Vc) (h : ok4 a) : Good (evPure Tryd.prog (mkOrc L2 []) Tryd.f109 [.un 5] [cFo.enc a, (cI .i64).enc 64]) fun r => r = cFo.enc (mk4 (num4 a * 18446744073709551616 % 115792089237316195423570985008687907853269984665640564039457584007913129639936)) := by
    refine .force ⟨?_⟩
    have e : (evPure Tryd.prog (mkOrc L2 []) Tryd.f109 [.un 5] [cFo.enc a, (cI .i64).enc 64]).force =
      Tr.ret (Cod.enc cFo (fourS [(0 : Int), IntKind.u64.wrap ((wordsS a).getD (0 : Nat) ET.u64.dflt * (2 : Int) ^ (0 : Nat)), IntKind.u64.wrap ((wordsS a).getD (1 : Nat) ET.u64.dflt * (2 : Int) ^ (0 : Nat)), IntKind.u64.wrap ((wordsS a).getD (2 : Nat) ET.u64.dflt * (2 : Int) ^ (0 : Nat))])) := by kernel_rfl
    rw [e]; clear e
    obtain ⟨⟨⟨a1⟩, ⟨a2⟩⟩, ⟨a3⟩, ⟨a4⟩⟩ := h
    refine congrArg cFo.enc ?_
    rw [num4_words]
    simp only [w0_is, w1_is, w2_is, w3_is, fourS, List.getD_cons_zero, List.getD_cons_succ, Int.reducePow, Int.pow_zero, IntKind.wrap_u64]
    exact mk4_is (by omega) (by omega) (by omega) (by omega)
theorem k_r1_Shl65 (a : Vc) (h : ok4 a) : Good (evPure Tryd.prog (mkOrc L2 []) Tryd.f109 [.un 5] [cFo.enc a, (cI .i64).enc 65]) fun r => r = cFo.enc (mk4 (num4 a * 36893488147419103232 % 115792089237316195423570985008687907853269984665640564039457584007913129639936)) := by
    refine .force ⟨?_⟩
    have e : (evPure Tryd.prog (mkOrc L2 []) Tryd.f109 [.un 5] [cFo.enc a, (cI .i64).enc 65]).force =
      Tr.ret (Cod.enc cFo (fourS [(0 : Int), IntKind.u64.wrap ((wordsS a).getD (0 : Nat) ET.u64.dflt * (2 : Int) ^ (1 : Nat)), IntKind.u64.wrap ↑(BitVec.ofInt (64 : Nat) ([(0 : Int), IntKind.u64.wrap ((wordsS a).getD (0 : Nat) ET.u64.dflt * (2 : Int) ^ (1 : Nat)), IntKind.u64.wrap ((wordsS a).getD (1 : Nat) ET.u64.dflt * (2 : Int) ^ (1 : Nat)), (0 : Int)].getD (2 : Nat) ET.u64.dflt) ||| BitVec.ofInt (64 : Nat) (Int.fdiv ((wordsS a).getD (0 : Nat) ET.u64.dflt) ((2 : Int) ^ (63 : Nat)))).toNat, IntKind.u64.wrap ↑(BitVec.ofInt (64 : Nat) ([(0 : Int), IntKind.u64.wrap ((wordsS a).getD (0 : Nat) ET.u64.dflt * (2 : Int) ^ (1 : Nat)), IntKind.u64.wrap ↑(BitVec.ofInt (64 : Nat) ([(0 : Int), IntKind.u64.wrap ((wordsS a).getD (0 : Nat) ET.u64.dflt * (2 : Int) ^ (1 : Nat)), IntKind.u64.wrap ((wordsS a).getD (1 : Nat) ET.u64.dflt * (2 : Int) ^ (1 : Nat)), (0 : Int)].getD (2 : Nat) ET.u64.dflt) ||| BitVec.ofInt (64 : Nat) (Int.fdiv ((wordsS a).getD (0 : Nat) ET.u64.dflt) ((2 : Int) ^ (63 : Nat)))).toNat, IntKind.u64.wrap ((wordsS a).getD (2 : Nat) ET.u64.dflt * (2 : Int) ^ (1 : Nat))].getD (3 : Nat) ET.u64.dflt) ||| BitVec.ofInt (64 : Nat) (Int.fdiv ((wordsS a).getD (1 : Nat) ET.u64.dflt) ((2 : Int) ^ (63 : Nat)))).toNat])) := by kernel_rfl
    rw [e]; clear e
    obtain ⟨⟨⟨a1⟩, ⟨a2⟩⟩, ⟨a3⟩, ⟨a4⟩⟩ := h
    refine congrArg cFo.enc ?_
    rw [num4_words]
    have sh : ∀ x y : Int, 0 ≤ x ∧ x < 18446744073709551616 → 0 ≤ y ∧ y < 18446744073709551616 → orU (IntKind.u64.wrap (x * 2 ^ 1)) (y / 9223372036854775808) = x * 2 % 18446744073709551616 + y / 9223372036854775808 := by
      intro x y hx hy
      have e : IntKind.u64.wrap (x * 2 ^ 1) = (x % 9223372036854775808) * 2 ^ 1 := by rw [IntKind.wrap_u64]; omega
      rw [e, orU_add 1 _ _ (by omega) (by omega) (by omega)]; omega
    have fd : ∀ x : Int, x.fdiv (2 ^ 63) = x / 9223372036854775808 := fun x => fdiv_pow x 63
    simp only [w0_is, w1_is, w2_is, w3_is, fourS, List.getD_cons_zero, List.getD_cons_succ, or_is, fd]
    rw [sh _ _ a2 a3, sh _ _ a3 a4, IntKind.wrap_u64]
    exact mk4_is (by omega) (by omega) (by omega) (by omega)
theorem k_r1_Shr64 (a : Vc) (h : ok4 a) : Good (evPure Tryd.prog (mkOrc L2 []) Tryd.f77 [.un 5] [cFo.enc a, (cI .i64).enc 64]) fun r => r = cFo.enc (mk4 (num4 a / 18446744073709551616)) := by
    refine .force ⟨?_⟩
    have e : (evPure Tryd.prog (mkOrc L2 []) Tryd.f77 [.un 5] [cFo.enc a, (cI .i64).enc 64]).force =
      Tr.ret (Cod.enc cFo (fourS [Int.fdiv ((wordsS a).getD (1 : Nat) ET.u64.dflt) ((2 : Int) ^ (0 : Nat)), Int.fdiv ((wordsS a).getD (2 : Nat) ET.u64.dflt) ((2 : Int) ^ (0 : Nat)), Int.fdiv ((wordsS a).getD (3 : Nat) ET.u64.dflt) ((2 : Int) ^ (0 : Nat)), (0 : Int)])) := by kernel_rfl
    rw [e]; clear e
    obtain ⟨⟨⟨a1⟩, ⟨a2⟩⟩, ⟨a3⟩, ⟨a4⟩⟩ := h
    refine congrArg cFo.enc ?_
    rw [num4_words]
    simp only [w0_is, w1_is, w2_is, w3_is, fourS, List.getD_cons_zero, List.getD_cons_succ, show ∀ x : Int, x.fdiv (2 ^ 0) = x from fun x => by rw [fdiv_pow]; omega]
    exact mk4_is (by omega) (by omega) (by omega) (by omega)
theorem k_r1_Shr1 (a : Vc) (h : ok4 a) : Good (evPure Tryd.prog (mkOrc L2 []) Tryd.f77 [.un 5] [cFo.enc a, (cI .i64).enc 1]) fun r => r = cFo.enc (mk4 (num4 a / 2)) := by
    refine .force ⟨?_⟩
    have e : (evPure Tryd.prog (mkOrc L2 []) Tryd.f77 [.un 5] [cFo.enc a, (cI .i64).enc 1]).force =
      Tr.ret (Cod.enc cFo (fourS [IntKind.u64.wrap ↑(BitVec.ofInt (64 : Nat) ([Int.fdiv ((wordsS a).getD (0 : Nat) ET.u64.dflt) ((2 : Int) ^ (1 : Nat)), (0 : Int), (0 : Int), (0 : Int)].getD (0 : Nat) ET.u64.dflt) ||| BitVec.ofInt (64 : Nat) (IntKind.u64.wrap ((wordsS a).getD (1 : Nat) ET.u64.dflt * (2 : Int) ^ (63 : Nat)))).toNat, IntKind.u64.wrap ↑(BitVec.ofInt (64 : Nat) ([IntKind.u64.wrap ↑(BitVec.ofInt (64 : Nat) ([Int.fdiv ((wordsS a).getD (0 : Nat) ET.u64.dflt) ((2 : Int) ^ (1 : Nat)), (0 : Int), (0 : Int), (0 : Int)].getD (0 : Nat) ET.u64.dflt) ||| BitVec.ofInt (64 : Nat) (IntKind.u64.wrap ((wordsS a).getD (1 : Nat) ET.u64.dflt * (2 : Int) ^ (63 : Nat)))).toNat, Int.fdiv ((wordsS a).getD (1 : Nat) ET.u64.dflt) ((2 : Int) ^ (1 : Nat)), (0 : Int), (0 : Int)].getD (1 : Nat) ET.u64.dflt) ||| BitVec.ofInt (64 : Nat) (IntKind.u64.wrap ((wordsS a).getD (2 : Nat) ET.u64.dflt * (2 : Int) ^ (63 : Nat)))).toNat, IntKind.u64.wrap ↑(BitVec.ofInt (64 : Nat) ([IntKind.u64.wrap ↑(BitVec.ofInt (64 : Nat) ([Int.fdiv ((wordsS a).getD (0 : Nat) ET.u64.dflt) ((2 : Int) ^ (1 : Nat)), (0 : Int), (0 : Int), (0 : Int)].getD (0 : Nat) ET.u64.dflt) ||| BitVec.ofInt (64 : Nat) (IntKind.u64.wrap ((wordsS a).getD (1 : Nat) ET.u64.dflt * (2 : Int) ^ (63 : Nat)))).toNat, IntKind.u64.wrap ↑(BitVec.ofInt (64 : Nat) ([IntKind.u64.wrap ↑(BitVec.ofInt (64 : Nat) ([Int.fdiv ((wordsS a).getD (0 : Nat) ET.u64.dflt) ((2 : Int) ^ (1 : Nat)), (0 : Int), (0 : Int), (0 : Int)].getD (0 : Nat) ET.u64.dflt) ||| BitVec.ofInt (64 : Nat) (IntKind.u64.wrap ((wordsS a).getD (1 : Nat) ET.u64.dflt * (2 : Int) ^ (63 : Nat)))).toNat, Int.fdiv ((wordsS a).getD (1 : Nat) ET.u64.dflt) ((2 : Int) ^ (1 : Nat)), (0 : Int), (0 : Int)].getD (1 : Nat) ET.u64.dflt) ||| BitVec.ofInt (64 : Nat) (IntKind.u64.wrap ((wordsS a).getD (2 : Nat) ET.u64.dflt * (2 : Int) ^ (63 : Nat)))).toNat, Int.fdiv ((wordsS a).getD (2 : Nat) ET.u64.dflt) ((2 : Int) ^ (1 : Nat)), (0 : Int)].getD (2 : Nat) ET.u64.dflt) ||| BitVec.ofInt (64 : Nat) (IntKind.u64.wrap ((wordsS a).getD (3 : Nat) ET.u64.dflt * (2 : Int) ^ (63 : Nat)))).toNat, Int.fdiv ((wordsS a).getD (3 : Nat) ET.u64.dflt) ((2 : Int) ^ (1 : Nat))])) := by kernel_rfl
    rw [e]; clear e
    obtain ⟨⟨⟨a1⟩, ⟨a2⟩⟩, ⟨a3⟩, ⟨a4⟩⟩ := h
    refine congrArg cFo.enc ?_
    rw [num4_words]
    have sh : ∀ x y : Int, 0 ≤ x ∧ x < 18446744073709551616 → 0 ≤ y ∧ y < 18446744073709551616 → orU (x / 2) (IntKind.u64.wrap (y * 2 ^ 63)) = y % 2 * 9223372036854775808 + x / 2 := by
      intro x y hx hy
      have e : IntKind.u64.wrap (y * 2 ^ 63) = (y % 2) * 2 ^ 63 := by rw [IntKind.wrap_u64]; omega
      have cm : ∀ p q : Int, orU p q = orU q p := fun p q => by unfold orU; rw [BitVec.or_comm]
      rw [cm, e, orU_add 63 _ _ (by omega) (by omega) (by omega)]; rfl
    have fd : ∀ x : Int, x.fdiv (2 ^ 1) = x / 2 := fun x => fdiv_pow x 1
    simp only [w0_is, w1_is, w2_is, w3_is, fourS, List.getD_cons_zero, List.getD_cons_succ, or_is, fd]
    rw [sh _ _ a4 a3, sh _ _ a3 a2, sh _ _ a2 a1]
    exact mk4_is (by omega) (by omega) (by omega) (by omega)
theorem k_r1_Shl : C2 Tryd.prog TabI 109 cFo (cI .i64) cFo.enc (fun a n => ok4 a ∧ (n = 64 ∨ n = 65)) fun a n => mk4 (num4 a * (if n = 64 then 18446744073709551616 else 36893488147419103232) % 115792089237316195423570985008687907853269984665640564039457584007913129639936) :=
  .ev (fun _ _ => [.un 5]) mixed (mkOrc_ok (l := L2) (x := []) trivial) Tryd.func109 (by decide) fun a n h => by
    obtain ⟨h, rfl | rfl⟩ := h
    · exact k_r1_Shl64 a h
    · exact k_r1_Shl65 a h
theorem k_r1_Shr : C2 Tryd.prog TabI 77 cFo (cI .i64) cFo.enc (fun a n => ok4 a ∧ (n = 64 ∨ n = 1)) fun a n => mk4 (num4 a / (if n = 64 then 18446744073709551616 else 2)) :=
  .ev (fun _ _ => [.un 5]) mixed (mkOrc_ok (l := L2) (x := []) trivial) Tryd.func77 (by decide) fun a n h => by
    obtain ⟨h, rfl | rfl⟩ := h
    · exact k_r1_Shr64 a h
    · exact k_r1_Shr1 a h
def L3 : List (Ent Tryd.prog tid TabI) := e2 k_r1_CmpFour Tryd.func141 :: e2 k_r1_bit Tryd.func150 :: e2 k_r1_Shl Tryd.func109 :: e2 k_r1_Shr Tryd.func77 :: L2
end Go.Proofs.YtpbklojdmkpkcaaDoor
/- The reference's wide numbers: the sign, roots; as contracts. -/
namespace Go.Proofs.YtpbklojdmkpkcaaDoor
open Go Go.RowKit
set_option linter.unusedVariables false
set_option linter.unusedSimpArgs false
set_option maxRecDepth 100000
theorem k_r1_signed : C2 Tryd.prog TabI 76 cB cFo PV.got (fun _ m => ok4 m) fun s m => gotR (tell (num4 m) s) := fun s m h E w _ => by
  haveI := h.1.1; haveI := h.1.2; haveI := h.2.1; haveI := h.2.2
  exact r1_signed m.X.h m.X.l m.Y.h m.Y.l s w
theorem two_le {a b : Nat} (h : a ≤ b) : (2 : Int) ^ a ≤ 2 ^ b := by
  obtain ⟨c, rfl⟩ : ∃ c, b = a + c := ⟨b - a, by omega⟩
  rw [Int.pow_add]
  have h1 := two_pos a
  have h2 := two_pos c
  have := Int.mul_le_mul_of_nonneg_left (a := 1) (b := 2 ^ c) (c := 2 ^ a) (by omega) (by omega)
  omega
/-- The root, bit by bit. -/
def sqL (n : Int) : Nat → Int → Int
  | 0, s => s
  | k + 1, s => if (s + 2 ^ k) * (s + 2 ^ k) ≤ n then sqL n k (s + 2 ^ k) else sqL n k s
def isq (n : Int) : Int := sqL n 128 0
theorem or_bit (x : Int) (k : Nat) (hk : k < 64) (h : U x) (hm : x % 2 ^ (k + 1) = 0) : orU x (2 ^ k) = x + 2 ^ k ∧ x + 2 ^ k < 18446744073709551616 := by
  have hp := two_pos k
  have hp1 := two_pos (k + 1)
  have hp2 := two_pos (63 - k)
  have e64 : (18446744073709551616 : Int) = 2 ^ (63 - k) * 2 ^ (k + 1) := by rw [← Int.pow_add, show 63 - k + (k + 1) = 64 from by omega]; rfl
  have e1 : (2 : Int) ^ (k + 1) = 2 ^ k * 2 := Int.pow_succ 2 k
  have hx := h.h
  obtain ⟨q, hq⟩ : ∃ q, x = q * 2 ^ (k + 1) := ⟨x / 2 ^ (k + 1), by have := Int.emod_add_mul_ediv x (2 ^ (k + 1)); rw [hm, Int.mul_comm] at this; omega⟩
  have hq0 : 0 ≤ q := by
    have : ¬ q < 0 := fun hlt => by have := Int.mul_neg_of_neg_of_pos hlt hp1; omega
    omega
  have hq1 : q < 2 ^ (63 - k) := by
    rw [hq, e64] at hx
    exact Int.lt_of_mul_lt_mul_right hx.2 (Int.le_of_lt hp1)
  have hb : q * 2 ^ (k + 1) + 2 ^ (k + 1) ≤ 18446744073709551616 := by
    rw [e64, show q * 2 ^ (k + 1) + 2 ^ (k + 1) = (q + 1) * 2 ^ (k + 1) from by rw [Int.add_mul, Int.one_mul]]
    exact Int.mul_le_mul_of_nonneg_right (by omega) (Int.le_of_lt hp1)
  have hlt : q * 2 ^ (k + 1) + 2 ^ k < 18446744073709551616 := by omega
  subst hq
  exact ⟨orU_add (k + 1) q (2 ^ k) hq0 ⟨by omega, by omega⟩ hlt, hlt⟩
theorem pow_U64 (n : Int) (h : 0 ≤ n ∧ n ≤ 63) : IntKind.u64.wrap (1 * 2 ^ min n.toNat 64) = 2 ^ n.toNat := by
  rw [show min n.toNat 64 = n.toNat from by omega, Int.one_mul, IntKind.wrap_u64]
  have h1 : (2 : Int) ^ n.toNat ≤ 2 ^ 63 := two_le (by omega)
  have h2 := two_pos n.toNat
  have h3 : (2 : Int) ^ 63 = 9223372036854775808 := by decide
  omega
theorem low_mod (s : Fx) (h : okT s) (k : Nat) (hk : k < 64) (hm : num s % 2 ^ (k + 1) = 0) : s.l % 2 ^ (k + 1) = 0 := by
  have h2 := h.2.h
  have e : s.l = num s % 18446744073709551616 := by unfold num val2; omega
  rw [e, Int.emod_emod_of_dvd _ ⟨2 ^ (63 - k), by rw [← Int.pow_add, show k + 1 + (63 - k) = 64 from by omega]; rfl⟩]
  exact hm
theorem high_mod (s : Fx) (h : okT s) (k : Nat) (hm : num s % (18446744073709551616 * 2 ^ (k + 1)) = 0) : s.h % 2 ^ (k + 1) = 0 := by
  have h2 := h.2.h
  have e : s.h = num s / 18446744073709551616 := by unfold num val2; omega
  have := Int.emod_add_mul_ediv (num s) (18446744073709551616 * 2 ^ (k + 1))
  rw [hm] at this
  generalize num s / (18446744073709551616 * 2 ^ (k + 1)) = q at this
  rw [e, ← this, Int.zero_add, Int.mul_assoc, Int.mul_ediv_cancel_left _ (by decide)]
  exact Int.mul_emod_right _ _
def RootInv (n : Int) (x : Int × Fx) : Prop := (-1 ≤ x.1 ∧ x.1 ≤ 127) ∧ okT x.2 ∧ num x.2 % 2 ^ (x.1 + 1).toNat = 0 ∧ sqL n (x.1 + 1).toNat (num x.2) = isq n
def rootLoop (n : Int) : LSpec where
  σ := Int × Fx
  keysT := [4]
  keysB := [3]
  enc := fun _ x => ([.int .i64 x.1], [.cells [.int .u64 x.2.h, .int .u64 x.2.l] 56])
  rd := fun _ s => match s.tmps 4, s.mem 3 with
    | some (.raw (.int _ i)), some (.cells [.raw (.int _ h), .raw (.int _ l)] _) => some ((i, ⟨h, l⟩), [])
    | _, _ => none
  inv := fun _ x => RootInv n x
  μ := fun _ x => (x.1 + 1).toNat
theorem root_step (n : Int) (i : Int) (s : Fx) (h : RootInv n (i, s)) (h0 : 0 ≤ i) (t : Fx) (ht : okT t) (hn : num t = num s + 2 ^ i.toNat) : RootInv n (i - 1, if num t * num t ≤ n then t else s) := by
  obtain ⟨h1, h2, h3, h4⟩ := h
  simp only at h1 h2 h3 h4
  obtain ⟨k, rfl⟩ : ∃ k : Nat, i = k := ⟨i.toNat, by omega⟩
  have e1 : ((k : Int) + 1).toNat = k + 1 := by omega
  have e2 : ((k : Int) - 1 + 1).toNat = k := by omega
  rw [e1] at h3 h4
  rw [Int.toNat_natCast] at hn
  have hd : num s % 2 ^ k = 0 := by
    have : (2 : Int) ^ k ∣ 2 ^ (k + 1) := ⟨2, Int.pow_succ 2 k⟩
    rw [← Int.emod_emod_of_dvd _ this, h3]; rfl
  refine ⟨⟨by simp only; omega, by simp only; omega⟩, ?_, ?_, ?_⟩
  · simp only; split
    · exact ht
    · exact h2
  · simp only [e2]; split
    · rw [hn, Int.add_emod_right]; exact hd
    · exact hd
  · simp only [e2]
    rw [← h4]
    simp only [sqL]
    rw [← hn]
    split <;> rfl
theorem cmp_le (x y : Int) : (decide (cmpS x y ≤ 0)) = decide (x ≤ y) := by
  unfold cmpS
  rw [decide_eq_decide]
  split
  · omega
  · split <;> omega
theorem k_r1_Root : C1 Tryd.prog TabI 108 cFo cTw.enc ok4 fun a => mkx (isq (num4 a)) :=
  .ev (fun a => [rootLoop (num4 a)]) mixed (mkOrc_ok (l := L3) (x := []) trivial) Tryd.func108 (by decide) fun a h => by
    refine ⟨?_⟩
    have e : evPure Tryd.prog (mkOrc L3 []) Tryd.f108 [rootLoop (num4 a)] [cFo.enc a] =
      Tr.need ((127 : Int) = (127 : Int) ∧ True) (Tr.need (((0 : Int) = (0 : Int) ∧ (0 : Int) = (0 : Int) ∧ True) ∧ True) (Tr.need (RootInv (num4 a) ((127 : Int), { h := (0 : Int), l := (0 : Int) })) (Tr.all (Int × Fx) (fun x => RootInv (num4 a) x) fun x => Tr.ite (decide (x.fst ≥ (0 : Int))) (Tr.ite (decide (x.fst ≥ (64 : Int))) (Tr.chk (decide ((0 : Int) ≤ IntKind.i64.wrap (x.fst - (64 : Int)))) (Tr.chk (decide (okT { h := IntKind.u64.wrap ↑(BitVec.ofInt (64 : Nat) x.snd.h ||| BitVec.ofInt (64 : Nat) (IntKind.u64.wrap ((1 : Int) * (2 : Int) ^ min (IntKind.i64.wrap (x.fst - (64 : Int))).toNat (64 : Nat)))).toNat, l := x.snd.l } ∧ okT { h := IntKind.u64.wrap ↑(BitVec.ofInt (64 : Nat) x.snd.h ||| BitVec.ofInt (64 : Nat) (IntKind.u64.wrap ((1 : Int) * (2 : Int) ^ min (IntKind.i64.wrap (x.fst - (64 : Int))).toNat (64 : Nat)))).toNat, l := x.snd.l })) (Tr.chk (decide (ok4 (mk4 (num { h := IntKind.u64.wrap ↑(BitVec.ofInt (64 : Nat) x.snd.h ||| BitVec.ofInt (64 : Nat) (IntKind.u64.wrap ((1 : Int) * (2 : Int) ^ min (IntKind.i64.wrap (x.fst - (64 : Int))).toNat (64 : Nat)))).toNat, l := x.snd.l } * num { h := IntKind.u64.wrap ↑(BitVec.ofInt (64 : Nat) x.snd.h ||| BitVec.ofInt (64 : Nat) (IntKind.u64.wrap ((1 : Int) * (2 : Int) ^ min (IntKind.i64.wrap (x.fst - (64 : Int))).toNat (64 : Nat)))).toNat, l := x.snd.l })) ∧ ok4 a)) (Tr.ite (decide (cmpS (num4 (mk4 (num { h := IntKind.u64.wrap ↑(BitVec.ofInt (64 : Nat) x.snd.h ||| BitVec.ofInt (64 : Nat) (IntKind.u64.wrap ((1 : Int) * (2 : Int) ^ min (IntKind.i64.wrap (x.fst - (64 : Int))).toNat (64 : Nat)))).toNat, l := x.snd.l } * num { h := IntKind.u64.wrap ↑(BitVec.ofInt (64 : Nat) x.snd.h ||| BitVec.ofInt (64 : Nat) (IntKind.u64.wrap ((1 : Int) * (2 : Int) ^ min (IntKind.i64.wrap (x.fst - (64 : Int))).toNat (64 : Nat)))).toNat, l := x.snd.l }))) (num4 a) ≤ (0 : Int))) (Tr.need (IntKind.i64.wrap (x.fst - (1 : Int)) = IntKind.i64.wrap (x.fst - (1 : Int)) ∧ True) (Tr.need ((IntKind.u64.wrap ↑(BitVec.ofInt (64 : Nat) x.snd.h ||| BitVec.ofInt (64 : Nat) (IntKind.u64.wrap ((1 : Int) * (2 : Int) ^ min (IntKind.i64.wrap (x.fst - (64 : Int))).toNat (64 : Nat)))).toNat = IntKind.u64.wrap ↑(BitVec.ofInt (64 : Nat) x.snd.h ||| BitVec.ofInt (64 : Nat) (IntKind.u64.wrap ((1 : Int) * (2 : Int) ^ min (IntKind.i64.wrap (x.fst - (64 : Int))).toNat (64 : Nat)))).toNat ∧ x.snd.l = x.snd.l ∧ True) ∧ True) (Tr.need (RootInv (num4 a) (IntKind.i64.wrap (x.fst - (1 : Int)), { h := IntKind.u64.wrap ↑(BitVec.ofInt (64 : Nat) x.snd.h ||| BitVec.ofInt (64 : Nat) (IntKind.u64.wrap ((1 : Int) * (2 : Int) ^ min (IntKind.i64.wrap (x.fst - (64 : Int))).toNat (64 : Nat)))).toNat, l := x.snd.l })) (Tr.need ((IntKind.i64.wrap (x.fst - (1 : Int)) + (1 : Int)).toNat < (x.fst + (1 : Int)).toNat) Tr.done)))) (Tr.need (IntKind.i64.wrap (x.fst - (1 : Int)) = IntKind.i64.wrap (x.fst - (1 : Int)) ∧ True) (Tr.need ((x.snd.h = x.snd.h ∧ x.snd.l = x.snd.l ∧ True) ∧ True) (Tr.need (RootInv (num4 a) (IntKind.i64.wrap (x.fst - (1 : Int)), x.snd)) (Tr.need ((IntKind.i64.wrap (x.fst - (1 : Int)) + (1 : Int)).toNat < (x.fst + (1 : Int)).toNat) Tr.done)))))))) (Tr.chk (decide ((0 : Int) ≤ x.fst)) (Tr.chk (decide (okT { h := x.snd.h, l := IntKind.u64.wrap ↑(BitVec.ofInt (64 : Nat) x.snd.l ||| BitVec.ofInt (64 : Nat) (IntKind.u64.wrap ((1 : Int) * (2 : Int) ^ min x.fst.toNat (64 : Nat)))).toNat } ∧ okT { h := x.snd.h, l := IntKind.u64.wrap ↑(BitVec.ofInt (64 : Nat) x.snd.l ||| BitVec.ofInt (64 : Nat) (IntKind.u64.wrap ((1 : Int) * (2 : Int) ^ min x.fst.toNat (64 : Nat)))).toNat })) (Tr.chk (decide (ok4 (mk4 (num { h := x.snd.h, l := IntKind.u64.wrap ↑(BitVec.ofInt (64 : Nat) x.snd.l ||| BitVec.ofInt (64 : Nat) (IntKind.u64.wrap ((1 : Int) * (2 : Int) ^ min x.fst.toNat (64 : Nat)))).toNat } * num { h := x.snd.h, l := IntKind.u64.wrap ↑(BitVec.ofInt (64 : Nat) x.snd.l ||| BitVec.ofInt (64 : Nat) (IntKind.u64.wrap ((1 : Int) * (2 : Int) ^ min x.fst.toNat (64 : Nat)))).toNat })) ∧ ok4 a)) (Tr.ite (decide (cmpS (num4 (mk4 (num { h := x.snd.h, l := IntKind.u64.wrap ↑(BitVec.ofInt (64 : Nat) x.snd.l ||| BitVec.ofInt (64 : Nat) (IntKind.u64.wrap ((1 : Int) * (2 : Int) ^ min x.fst.toNat (64 : Nat)))).toNat } * num { h := x.snd.h, l := IntKind.u64.wrap ↑(BitVec.ofInt (64 : Nat) x.snd.l ||| BitVec.ofInt (64 : Nat) (IntKind.u64.wrap ((1 : Int) * (2 : Int) ^ min x.fst.toNat (64 : Nat)))).toNat }))) (num4 a) ≤ (0 : Int))) (Tr.need (IntKind.i64.wrap (x.fst - (1 : Int)) = IntKind.i64.wrap (x.fst - (1 : Int)) ∧ True) (Tr.need ((x.snd.h = x.snd.h ∧ IntKind.u64.wrap ↑(BitVec.ofInt (64 : Nat) x.snd.l ||| BitVec.ofInt (64 : Nat) (IntKind.u64.wrap ((1 : Int) * (2 : Int) ^ min x.fst.toNat (64 : Nat)))).toNat = IntKind.u64.wrap ↑(BitVec.ofInt (64 : Nat) x.snd.l ||| BitVec.ofInt (64 : Nat) (IntKind.u64.wrap ((1 : Int) * (2 : Int) ^ min x.fst.toNat (64 : Nat)))).toNat ∧ True) ∧ True) (Tr.need (RootInv (num4 a) (IntKind.i64.wrap (x.fst - (1 : Int)), { h := x.snd.h, l := IntKind.u64.wrap ↑(BitVec.ofInt (64 : Nat) x.snd.l ||| BitVec.ofInt (64 : Nat) (IntKind.u64.wrap ((1 : Int) * (2 : Int) ^ min x.fst.toNat (64 : Nat)))).toNat })) (Tr.need ((IntKind.i64.wrap (x.fst - (1 : Int)) + (1 : Int)).toNat < (x.fst + (1 : Int)).toNat) Tr.done)))) (Tr.need (IntKind.i64.wrap (x.fst - (1 : Int)) = IntKind.i64.wrap (x.fst - (1 : Int)) ∧ True) (Tr.need ((x.snd.h = x.snd.h ∧ x.snd.l = x.snd.l ∧ True) ∧ True) (Tr.need (RootInv (num4 a) (IntKind.i64.wrap (x.fst - (1 : Int)), x.snd)) (Tr.need ((IntKind.i64.wrap (x.fst - (1 : Int)) + (1 : Int)).toNat < (x.fst + (1 : Int)).toNat) Tr.done))))))))) (Tr.ret (Cod.enc cTw x.snd))))) := by kernel_rfl
    rw [e]; clear e
    simp only [Tr.holds, cmp_le, num4_mk, decide_eq_true_eq, decide_eq_false_iff_not, true_and, and_true, or_is, and_self]
    refine ⟨⟨⟨by omega, by omega⟩, ⟨(inferInstance : U 0), (inferInstance : U 0)⟩, rfl, rfl⟩, ?_⟩
    rintro ⟨i, s⟩ hx
    have hx' := hx
    obtain ⟨⟨b1, b2⟩, hs, hm, hq⟩ := hx'
    simp only at b1 b2 hs hm hq ⊢
    have hw : IntKind.i64.wrap (i - 1) = i - 1 := wrap_i64_id _ (by omega)
    have key : 0 ≤ i → ∀ t : Fx, okT t → num t = num s + 2 ^ i.toNat → (okT t ∧ (ok4 (mk4 (num t * num t)) ∧ ok4 a) ∧ (num t * num t ≤ num4 a → RootInv (num4 a) (IntKind.i64.wrap (i - 1), t) ∧ (IntKind.i64.wrap (i - 1) + 1).toNat < (i + 1).toNat) ∧ (¬ num t * num t ≤ num4 a → RootInv (num4 a) (IntKind.i64.wrap (i - 1), s) ∧ (IntKind.i64.wrap (i - 1) + 1).toNat < (i + 1).toNat)) := by
      intro h0 t ht hn
      have hst := root_step (num4 a) i s hx h0 t ht hn
      rw [hw]
      refine ⟨ht, ⟨ok4_mk _ ?_, h⟩, fun hle => ⟨?_, by omega⟩, fun hle => ⟨?_, by omega⟩⟩
      · have := mul_bd (n := 340282366920938463463374607431768211455) ⟨(num_T t ht).1, by have := num_T t ht; omega⟩ ⟨(num_T t ht).1, by have := num_T t ht; omega⟩
        omega
      · rwa [if_pos hle] at hst
      · rwa [if_neg hle] at hst
    refine ⟨fun h0 => ⟨fun h64 => ?_, fun h64 => ?_⟩, fun h0 => ?_⟩
    · have hw2 : IntKind.i64.wrap (i - 64) = i - 64 := wrap_i64_id _ (by omega)
      rw [hw2, pow_U64 _ (by omega)]
      obtain ⟨k, hk⟩ : ∃ k : Nat, i = k + 64 := ⟨(i - 64).toNat, by omega⟩
      have hm2 : num s % (18446744073709551616 * 2 ^ (k + 1)) = 0 := by
        rw [← hm, show (i + 1).toNat = 64 + (k + 1) from by omega, Int.pow_add 2 64 (k + 1)]; rfl
      obtain ⟨o1, o2⟩ := or_bit s.h k (by omega) hs.1 (high_mod s hs k hm2)
      have e : (i - 64).toNat = k := by omega
      rw [e, o1]
      have hp := two_pos k
      refine ⟨by omega, key h0 _ ⟨⟨by have := hs.1.h; simp only; omega⟩, hs.2⟩ ?_⟩
      show (s.h + 2 ^ k) * 18446744073709551616 + s.l = (s.h * 18446744073709551616 + s.l) + 2 ^ i.toNat
      rw [show i.toNat = 64 + k from by omega, Int.pow_add 2 64 k, show (2 : Int) ^ 64 = 18446744073709551616 from by decide]
      omega
    · rw [pow_U64 _ (by omega)]
      obtain ⟨k, hk⟩ : ∃ k : Nat, i = k := ⟨i.toNat, by omega⟩
      rw [show (i + 1).toNat = k + 1 from by omega] at hm
      obtain ⟨o1, o2⟩ := or_bit s.l k (by omega) hs.2 (low_mod s hs k (by omega) hm)
      have e : i.toNat = k := by omega
      rw [e, o1]
      have hp := two_pos k
      refine ⟨by omega, key h0 _ ⟨hs.1, ⟨by have := hs.2.h; simp only; omega⟩⟩ ?_⟩
      show s.h * 18446744073709551616 + (s.l + 2 ^ k) = (s.h * 18446744073709551616 + s.l) + 2 ^ i.toNat
      rw [e]; omega
    · have hi : i = -1 := by omega
      subst hi
      have hq : num s = isq (num4 a) := hq
      rw [← hq, mk_num _ hs.2]
end Go.Proofs.YtpbklojdmkpkcaaDoor
/- The reference's wide numbers: quotients; as a contract. -/
namespace Go.Proofs.YtpbklojdmkpkcaaDoor
open Go Go.RowKit
set_option linter.unusedVariables false
set_option linter.unusedSimpArgs false
set_option maxRecDepth 100000
def PV.dvd (x : Vc × Fx × Bool) : PV := .agg [.int .u64 x.1.X.h, .int .u64 x.1.X.l, .int .u64 x.1.Y.h, .int .u64 x.1.Y.l, .int .u64 x.2.1.h, .int .u64 x.2.1.l, .raw (.bool x.2.2)]
instance : Bare PV.dvd := ⟨fun _ => rfl⟩
/-- A number's words, lowest first. -/
def wordsI (q : Int) : List Int := [q % 18446744073709551616, q / 18446744073709551616 % 18446744073709551616, q / 340282366920938463463374607431768211456 % 18446744073709551616, q / 6277101735386680763835789423207666416102355444464034512896 % 18446744073709551616]
def DivInv (n d : Int) (x : Int × Fx × List Int) : Prop := (-1 ≤ x.1 ∧ x.1 ≤ 255) ∧ okT x.2.1 ∧ num x.2.1 = n / 2 ^ (x.1 + 1).toNat % d ∧ x.2.2 = wordsI (n / 2 ^ (x.1 + 1).toNat / d * 2 ^ (x.1 + 1).toNat)
theorem words_bit (q i : Int) (h : 0 ≤ i ∧ i ≤ 255) (hq : 0 ≤ q) (hm : q % 2 ^ (i.toNat + 1) = 0) : (wordsI q).set (i / 64).toNat (orU ((wordsI q).getD (i / 64).toNat ET.u64.dflt) (2 ^ (i % 64).toNat)) = wordsI (q + 2 ^ i.toNat) := by
  obtain ⟨r, hr⟩ : ∃ r : Nat, (i % 64).toNat = r ∧ r < 64 := ⟨_, rfl, by omega⟩
  rw [hr.1]
  have hr2 := hr.2
  have hp := two_pos r
  have word : ∀ (k : Nat) (W : Int), W = 2 ^ (64 * k) → i.toNat = 64 * k + r → (q / W % 18446744073709551616) % 2 ^ (r + 1) = 0 := by
    intro k W hW hi
    have e1 := Int.emod_add_mul_ediv q (2 ^ (i.toNat + 1))
    rw [hm, Int.zero_add] at e1
    have e2 : (2 : Int) ^ (i.toNat + 1) = W * 2 ^ (r + 1) := by rw [hW, ← Int.pow_add]; congr 1; omega
    rw [Int.emod_emod_of_dvd _ ⟨2 ^ (63 - r), by rw [← Int.pow_add, show r + 1 + (63 - r) = 64 from by omega]; rfl⟩]
    have hW0 : W ≠ 0 := by rw [hW]; exact Int.ne_of_gt (two_pos _)
    rw [← e1, e2, Int.mul_assoc, Int.mul_ediv_cancel_left _ hW0]
    exact Int.mul_emod_right _ _
  have pw : ∀ k : Nat, i.toNat = 64 * k + r → (2 : Int) ^ i.toNat = 2 ^ (64 * k) * 2 ^ r := fun k hk => by rw [hk, Int.pow_add]
  have c : i / 64 = 0 ∨ i / 64 = 1 ∨ i / 64 = 2 ∨ i / 64 = 3 := by omega
  rcases c with c | c | c | c <;> rw [c]
  · have hi : i.toNat = 64 * 0 + r := by omega
    have w := word 0 1 rfl hi
    rw [Int.ediv_one] at w
    rw [pw 0 hi, show (2 : Int) ^ (64 * 0) = 1 from rfl, Int.one_mul]
    obtain ⟨o1, o2⟩ := or_bit (q % 18446744073709551616) r hr2 ⟨by omega⟩ w
    show [orU (q % 18446744073709551616) (2 ^ r), _, _, _] = _
    rw [o1]
    unfold wordsI
    generalize (2 : Int) ^ r = P at *
    rw [List.cons.injEq, List.cons.injEq, List.cons.injEq, List.cons.injEq]
    exact ⟨by omega, by omega, by omega, by omega, rfl⟩
  · have hi : i.toNat = 64 * 1 + r := by omega
    have w := word 1 18446744073709551616 rfl hi
    rw [pw 1 hi, show (2 : Int) ^ (64 * 1) = 18446744073709551616 from rfl]
    obtain ⟨o1, o2⟩ := or_bit (q / 18446744073709551616 % 18446744073709551616) r hr2 ⟨by omega⟩ w
    show [_, orU (q / 18446744073709551616 % 18446744073709551616) (2 ^ r), _, _] = _
    rw [o1]
    unfold wordsI
    generalize (2 : Int) ^ r = P at *
    rw [List.cons.injEq, List.cons.injEq, List.cons.injEq, List.cons.injEq]
    exact ⟨by omega, by omega, by omega, by omega, rfl⟩
  · have hi : i.toNat = 64 * 2 + r := by omega
    have w := word 2 340282366920938463463374607431768211456 rfl hi
    rw [pw 2 hi, show (2 : Int) ^ (64 * 2) = 340282366920938463463374607431768211456 from rfl]
    obtain ⟨o1, o2⟩ := or_bit (q / 340282366920938463463374607431768211456 % 18446744073709551616) r hr2 ⟨by omega⟩ w
    show [_, _, orU (q / 340282366920938463463374607431768211456 % 18446744073709551616) (2 ^ r), _] = _
    rw [o1]
    unfold wordsI
    generalize (2 : Int) ^ r = P at *
    rw [List.cons.injEq, List.cons.injEq, List.cons.injEq, List.cons.injEq]
    exact ⟨by omega, by omega, by omega, by omega, rfl⟩
  · have hi : i.toNat = 64 * 3 + r := by omega
    have w := word 3 6277101735386680763835789423207666416102355444464034512896 rfl hi
    rw [pw 3 hi, show (2 : Int) ^ (64 * 3) = 6277101735386680763835789423207666416102355444464034512896 from rfl]
    obtain ⟨o1, o2⟩ := or_bit (q / 6277101735386680763835789423207666416102355444464034512896 % 18446744073709551616) r hr2 ⟨by omega⟩ w
    show [_, _, _, orU (q / 6277101735386680763835789423207666416102355444464034512896 % 18446744073709551616) (2 ^ r)] = _
    rw [o1]
    unfold wordsI
    generalize (2 : Int) ^ r = P at *
    rw [List.cons.injEq, List.cons.injEq, List.cons.injEq, List.cons.injEq]
    exact ⟨by omega, by omega, by omega, by omega, rfl⟩
theorem div_step {n d N b : Int} (hd : 0 < d) (hb : 0 ≤ b ∧ b ≤ 1) : (d ≤ 2 * (N % d) + b → (2 * N + b) / d = 2 * (N / d) + 1 ∧ (2 * N + b) % d = 2 * (N % d) + b - d) ∧ (2 * (N % d) + b < d → (2 * N + b) / d = 2 * (N / d) ∧ (2 * N + b) % d = 2 * (N % d) + b) := by
  have h1 := Int.emod_nonneg N (Int.ne_of_gt hd)
  have h2 := Int.emod_lt_of_pos N hd
  have h3 := Int.emod_add_mul_ediv N d
  generalize N % d = r at *
  generalize N / d = q at *
  have e1 : 2 * N + b = d * (2 * q) + (2 * r + b) := by rw [← h3, Int.mul_left_comm d 2 q]; omega
  refine ⟨fun h => ?_, fun h => ?_⟩
  · have e2 : 2 * N + b = (2 * r + b - d) + d * (2 * q + 1) := by rw [e1, Int.mul_add d]; omega
    have hh := (Int.ediv_emod_unique (a := 2 * N + b) (r := 2 * r + b - d) (q := 2 * q + 1) hd).2 ⟨by rw [e2], by omega, by omega⟩
    exact hh
  · have e2 : 2 * N + b = (2 * r + b) + d * (2 * q) := by rw [e1]; omega
    have hh := (Int.ediv_emod_unique (a := 2 * N + b) (r := 2 * r + b) (q := 2 * q) hd).2 ⟨by rw [e2], by omega, by omega⟩
    exact hh
theorem dbl_num (R : Fx) (b : Int) (hR : okT R) (hb : 0 ≤ b ∧ b ≤ 1) : okT ⟨orU (IntKind.u64.wrap (R.h * 2 ^ 1)) (R.l.fdiv (2 ^ 63)), orU (IntKind.u64.wrap (R.l * 2 ^ 1)) b⟩ ∧ num ⟨orU (IntKind.u64.wrap (R.h * 2 ^ 1)) (R.l.fdiv (2 ^ 63)), orU (IntKind.u64.wrap (R.l * 2 ^ 1)) b⟩ = (2 * num R + b) % 340282366920938463463374607431768211456 := by
  have h1 := hR.1.h
  have h2 := hR.2.h
  have fd : R.l.fdiv (2 ^ 63) = R.l / 9223372036854775808 := fdiv_pow R.l 63
  have e : ∀ x : Int, IntKind.u64.wrap (x * 2 ^ 1) = (x % 9223372036854775808) * 2 ^ 1 := fun x => by rw [IntKind.wrap_u64]; omega
  rw [fd, e, e, orU_add 1 _ _ (by omega) (by omega) (by omega), orU_add 1 _ _ (by omega) (by omega) (by omega)]
  refine ⟨⟨⟨by simp only; omega⟩, ⟨by simp only; omega⟩⟩, ?_⟩
  unfold num val2
  simp only
  omega
def divLoop (n d : Int) : LSpec where
  σ := Int × Fx × List Int
  keysT := [7]
  keysB := [5, 14]
  enc := fun _ x => ([.int .i64 x.1], [.cells [.int .u64 0, .int .u64 0, .int .u64 0, .int .u64 0, .int .u64 x.2.1.h, .int .u64 x.2.1.l, .raw (.bool true)] 170, .row true .u64 x.2.2])
  rd := fun _ s => match s.tmps 7, s.mem 5, s.mem 14 with
    | some (.raw (.int _ i)), some (.cells [_, _, _, _, .raw (.int _ h), .raw (.int _ l), _] _), some (.row _ .u64 q) => some ((i, ⟨h, l⟩, q), [])
    | _, _, _ => none
  inv := fun _ x => DivInv n d x
  μ := fun _ x => (x.1 + 1).toNat
def divS (a : Vc) (b : Fx) : Vc × Fx × Bool := if num b = 0 then (⟨⟨0, 0⟩, ⟨0, 0⟩⟩, ⟨0, 0⟩, false) else (mk4 (num4 a / num b), mkx (num4 a % num b), true)
theorem k_r1_DivFour : C2 Tryd.prog TabI 128 cFo cTw PV.dvd (fun a b => ok4 a ∧ okT b) divS :=
  .ev (fun a b => [divLoop (num4 a) (num b)]) mixed (mkOrc_ok (l := L3) (x := []) trivial) Tryd.func128 (by decide) fun a b h => by
    refine ⟨?_⟩
    have e : evPure Tryd.prog (mkOrc L3 []) Tryd.f128 [divLoop (num4 a) (num b)] [cFo.enc a, cTw.enc b] =
      Tr.ite (b.h == (0 : Int) && (b.l == (0 : Int) && true)) (Tr.ret (PV.agg [PV.raw (Value.int IntKind.u64 (0 : Int)), PV.raw (Value.int IntKind.u64 (0 : Int)), PV.raw (Value.int IntKind.u64 (0 : Int)), PV.raw (Value.int IntKind.u64 (0 : Int)), PV.raw (Value.int IntKind.u64 (0 : Int)), PV.raw (Value.int IntKind.u64 (0 : Int)), PV.raw (Value.bool false)])) (Tr.chk true (Tr.need ((255 : Int) = (255 : Int) ∧ True) (Tr.need (((0 : Int) = (0 : Int) ∧ (0 : Int) = (0 : Int) ∧ (0 : Int) = (0 : Int) ∧ (0 : Int) = (0 : Int) ∧ (0 : Int) = (0 : Int) ∧ (0 : Int) = (0 : Int) ∧ true = true ∧ True) ∧ [(0 : Int), (0 : Int), (0 : Int), (0 : Int)] = [(0 : Int), (0 : Int), (0 : Int), (0 : Int)] ∧ True) (Tr.need (DivInv (num4 a) (num b) ((255 : Int), { h := (0 : Int), l := (0 : Int) }, [(0 : Int), (0 : Int), (0 : Int), (0 : Int)])) (Tr.all (Int × Fx × List Int) (fun x => DivInv (num4 a) (num b) x) fun x => Tr.ite (decide (x.fst ≥ (0 : Int))) (Tr.chk true (Tr.chk true (Tr.chk true (Tr.chk true (Tr.chk (decide (ok4 a ∧ (0 : Int) ≤ x.fst ∧ x.fst ≤ (255 : Int))) (Tr.ite (x.snd.fst.h.fdiv ((2 : Int) ^ (63 : Nat)) == (1 : Int)) (Tr.ite true (Tr.chk (decide (okT { h := IntKind.u64.wrap ↑(BitVec.ofInt (64 : Nat) (IntKind.u64.wrap (x.snd.fst.h * (2 : Int) ^ (1 : Nat))) ||| BitVec.ofInt (64 : Nat) (x.snd.fst.l.fdiv ((2 : Int) ^ (63 : Nat)))).toNat, l := IntKind.u64.wrap ↑(BitVec.ofInt (64 : Nat) (IntKind.u64.wrap (x.snd.fst.l * (2 : Int) ^ (1 : Nat))) ||| BitVec.ofInt (64 : Nat) (bitS a x.fst)).toNat } ∧ okT b)) (Tr.chk true (Tr.chk (decide ((0 : Int) ≤ IntKind.i64.wrap (x.fst.tdiv (64 : Int))) && decide (IntKind.i64.wrap (x.fst.tdiv (64 : Int)) < ↑x.snd.snd.length)) (Tr.chk ((IntKind.i64.wrap (x.fst.tdiv (64 : Int))).toNat.blt x.snd.snd.length) (Tr.chk true (Tr.chk (decide ((0 : Int) ≤ x.fst.tmod (64 : Int))) (Tr.chk (decide ((0 : Int) ≤ IntKind.i64.wrap (x.fst.tdiv (64 : Int))) && decide (IntKind.i64.wrap (x.fst.tdiv (64 : Int)) < ↑x.snd.snd.length)) (Tr.chk ((IntKind.i64.wrap (x.fst.tdiv (64 : Int))).toNat.blt x.snd.snd.length) (Tr.need (IntKind.i64.wrap (x.fst - (1 : Int)) = IntKind.i64.wrap (x.fst - (1 : Int)) ∧ True) (Tr.need (((0 : Int) = (0 : Int) ∧ (0 : Int) = (0 : Int) ∧ (0 : Int) = (0 : Int) ∧ (0 : Int) = (0 : Int) ∧ (mkx (mod2 (num { h := IntKind.u64.wrap ↑(BitVec.ofInt (64 : Nat) (IntKind.u64.wrap (x.snd.fst.h * (2 : Int) ^ (1 : Nat))) ||| BitVec.ofInt (64 : Nat) (x.snd.fst.l.fdiv ((2 : Int) ^ (63 : Nat)))).toNat, l := IntKind.u64.wrap ↑(BitVec.ofInt (64 : Nat) (IntKind.u64.wrap (x.snd.fst.l * (2 : Int) ^ (1 : Nat))) ||| BitVec.ofInt (64 : Nat) (bitS a x.fst)).toNat } - num b))).h = (mkx (mod2 (num { h := IntKind.u64.wrap ↑(BitVec.ofInt (64 : Nat) (IntKind.u64.wrap (x.snd.fst.h * (2 : Int) ^ (1 : Nat))) ||| BitVec.ofInt (64 : Nat) (x.snd.fst.l.fdiv ((2 : Int) ^ (63 : Nat)))).toNat, l := IntKind.u64.wrap ↑(BitVec.ofInt (64 : Nat) (IntKind.u64.wrap (x.snd.fst.l * (2 : Int) ^ (1 : Nat))) ||| BitVec.ofInt (64 : Nat) (bitS a x.fst)).toNat } - num b))).h ∧ (mkx (mod2 (num { h := IntKind.u64.wrap ↑(BitVec.ofInt (64 : Nat) (IntKind.u64.wrap (x.snd.fst.h * (2 : Int) ^ (1 : Nat))) ||| BitVec.ofInt (64 : Nat) (x.snd.fst.l.fdiv ((2 : Int) ^ (63 : Nat)))).toNat, l := IntKind.u64.wrap ↑(BitVec.ofInt (64 : Nat) (IntKind.u64.wrap (x.snd.fst.l * (2 : Int) ^ (1 : Nat))) ||| BitVec.ofInt (64 : Nat) (bitS a x.fst)).toNat } - num b))).l = (mkx (mod2 (num { h := IntKind.u64.wrap ↑(BitVec.ofInt (64 : Nat) (IntKind.u64.wrap (x.snd.fst.h * (2 : Int) ^ (1 : Nat))) ||| BitVec.ofInt (64 : Nat) (x.snd.fst.l.fdiv ((2 : Int) ^ (63 : Nat)))).toNat, l := IntKind.u64.wrap ↑(BitVec.ofInt (64 : Nat) (IntKind.u64.wrap (x.snd.fst.l * (2 : Int) ^ (1 : Nat))) ||| BitVec.ofInt (64 : Nat) (bitS a x.fst)).toNat } - num b))).l ∧ true = true ∧ True) ∧ x.snd.snd.set (IntKind.i64.wrap (x.fst.tdiv (64 : Int))).toNat (IntKind.u64.wrap ↑(BitVec.ofInt (64 : Nat) (x.snd.snd.getD (IntKind.i64.wrap (x.fst.tdiv (64 : Int))).toNat ET.u64.dflt) ||| BitVec.ofInt (64 : Nat) (IntKind.u64.wrap ((1 : Int) * (2 : Int) ^ min (x.fst.tmod (64 : Int)).toNat (64 : Nat)))).toNat) = x.snd.snd.set (IntKind.i64.wrap (x.fst.tdiv (64 : Int))).toNat (IntKind.u64.wrap ↑(BitVec.ofInt (64 : Nat) (x.snd.snd.getD (IntKind.i64.wrap (x.fst.tdiv (64 : Int))).toNat ET.u64.dflt) ||| BitVec.ofInt (64 : Nat) (IntKind.u64.wrap ((1 : Int) * (2 : Int) ^ min (x.fst.tmod (64 : Int)).toNat (64 : Nat)))).toNat) ∧ True) (Tr.need (DivInv (num4 a) (num b) (IntKind.i64.wrap (x.fst - (1 : Int)), mkx (mod2 (num { h := IntKind.u64.wrap ↑(BitVec.ofInt (64 : Nat) (IntKind.u64.wrap (x.snd.fst.h * (2 : Int) ^ (1 : Nat))) ||| BitVec.ofInt (64 : Nat) (x.snd.fst.l.fdiv ((2 : Int) ^ (63 : Nat)))).toNat, l := IntKind.u64.wrap ↑(BitVec.ofInt (64 : Nat) (IntKind.u64.wrap (x.snd.fst.l * (2 : Int) ^ (1 : Nat))) ||| BitVec.ofInt (64 : Nat) (bitS a x.fst)).toNat } - num b)), x.snd.snd.set (IntKind.i64.wrap (x.fst.tdiv (64 : Int))).toNat (IntKind.u64.wrap ↑(BitVec.ofInt (64 : Nat) (x.snd.snd.getD (IntKind.i64.wrap (x.fst.tdiv (64 : Int))).toNat ET.u64.dflt) ||| BitVec.ofInt (64 : Nat) (IntKind.u64.wrap ((1 : Int) * (2 : Int) ^ min (x.fst.tmod (64 : Int)).toNat (64 : Nat)))).toNat))) (Tr.need ((IntKind.i64.wrap (x.fst - (1 : Int)) + (1 : Int)).toNat < (x.fst + (1 : Int)).toNat) Tr.done)))))))))))) (Tr.need (IntKind.i64.wrap (x.fst - (1 : Int)) = IntKind.i64.wrap (x.fst - (1 : Int)) ∧ True) (Tr.need (((0 : Int) = (0 : Int) ∧ (0 : Int) = (0 : Int) ∧ (0 : Int) = (0 : Int) ∧ (0 : Int) = (0 : Int) ∧ IntKind.u64.wrap ↑(BitVec.ofInt (64 : Nat) (IntKind.u64.wrap (x.snd.fst.h * (2 : Int) ^ (1 : Nat))) ||| BitVec.ofInt (64 : Nat) (x.snd.fst.l.fdiv ((2 : Int) ^ (63 : Nat)))).toNat = IntKind.u64.wrap ↑(BitVec.ofInt (64 : Nat) (IntKind.u64.wrap (x.snd.fst.h * (2 : Int) ^ (1 : Nat))) ||| BitVec.ofInt (64 : Nat) (x.snd.fst.l.fdiv ((2 : Int) ^ (63 : Nat)))).toNat ∧ IntKind.u64.wrap ↑(BitVec.ofInt (64 : Nat) (IntKind.u64.wrap (x.snd.fst.l * (2 : Int) ^ (1 : Nat))) ||| BitVec.ofInt (64 : Nat) (bitS a x.fst)).toNat = IntKind.u64.wrap ↑(BitVec.ofInt (64 : Nat) (IntKind.u64.wrap (x.snd.fst.l * (2 : Int) ^ (1 : Nat))) ||| BitVec.ofInt (64 : Nat) (bitS a x.fst)).toNat ∧ true = true ∧ True) ∧ x.snd.snd = x.snd.snd ∧ True) (Tr.need (DivInv (num4 a) (num b) (IntKind.i64.wrap (x.fst - (1 : Int)), { h := IntKind.u64.wrap ↑(BitVec.ofInt (64 : Nat) (IntKind.u64.wrap (x.snd.fst.h * (2 : Int) ^ (1 : Nat))) ||| BitVec.ofInt (64 : Nat) (x.snd.fst.l.fdiv ((2 : Int) ^ (63 : Nat)))).toNat, l := IntKind.u64.wrap ↑(BitVec.ofInt (64 : Nat) (IntKind.u64.wrap (x.snd.fst.l * (2 : Int) ^ (1 : Nat))) ||| BitVec.ofInt (64 : Nat) (bitS a x.fst)).toNat }, x.snd.snd)) (Tr.need ((IntKind.i64.wrap (x.fst - (1 : Int)) + (1 : Int)).toNat < (x.fst + (1 : Int)).toNat) Tr.done))))) (Tr.chk (decide (okT { h := IntKind.u64.wrap ↑(BitVec.ofInt (64 : Nat) (IntKind.u64.wrap (x.snd.fst.h * (2 : Int) ^ (1 : Nat))) ||| BitVec.ofInt (64 : Nat) (x.snd.fst.l.fdiv ((2 : Int) ^ (63 : Nat)))).toNat, l := IntKind.u64.wrap ↑(BitVec.ofInt (64 : Nat) (IntKind.u64.wrap (x.snd.fst.l * (2 : Int) ^ (1 : Nat))) ||| BitVec.ofInt (64 : Nat) (bitS a x.fst)).toNat } ∧ okT b)) (Tr.ite (bif false then true else !below (num { h := IntKind.u64.wrap ↑(BitVec.ofInt (64 : Nat) (IntKind.u64.wrap (x.snd.fst.h * (2 : Int) ^ (1 : Nat))) ||| BitVec.ofInt (64 : Nat) (x.snd.fst.l.fdiv ((2 : Int) ^ (63 : Nat)))).toNat, l := IntKind.u64.wrap ↑(BitVec.ofInt (64 : Nat) (IntKind.u64.wrap (x.snd.fst.l * (2 : Int) ^ (1 : Nat))) ||| BitVec.ofInt (64 : Nat) (bitS a x.fst)).toNat } - num b)) (Tr.chk (decide (okT { h := IntKind.u64.wrap ↑(BitVec.ofInt (64 : Nat) (IntKind.u64.wrap (x.snd.fst.h * (2 : Int) ^ (1 : Nat))) ||| BitVec.ofInt (64 : Nat) (x.snd.fst.l.fdiv ((2 : Int) ^ (63 : Nat)))).toNat, l := IntKind.u64.wrap ↑(BitVec.ofInt (64 : Nat) (IntKind.u64.wrap (x.snd.fst.l * (2 : Int) ^ (1 : Nat))) ||| BitVec.ofInt (64 : Nat) (bitS a x.fst)).toNat } ∧ okT b)) (Tr.chk true (Tr.chk (decide ((0 : Int) ≤ IntKind.i64.wrap (x.fst.tdiv (64 : Int))) && decide (IntKind.i64.wrap (x.fst.tdiv (64 : Int)) < ↑x.snd.snd.length)) (Tr.chk ((IntKind.i64.wrap (x.fst.tdiv (64 : Int))).toNat.blt x.snd.snd.length) (Tr.chk true (Tr.chk (decide ((0 : Int) ≤ x.fst.tmod (64 : Int))) (Tr.chk (decide ((0 : Int) ≤ IntKind.i64.wrap (x.fst.tdiv (64 : Int))) && decide (IntKind.i64.wrap (x.fst.tdiv (64 : Int)) < ↑x.snd.snd.length)) (Tr.chk ((IntKind.i64.wrap (x.fst.tdiv (64 : Int))).toNat.blt x.snd.snd.length) (Tr.need (IntKind.i64.wrap (x.fst - (1 : Int)) = IntKind.i64.wrap (x.fst - (1 : Int)) ∧ True) (Tr.need (((0 : Int) = (0 : Int) ∧ (0 : Int) = (0 : Int) ∧ (0 : Int) = (0 : Int) ∧ (0 : Int) = (0 : Int) ∧ (mkx (mod2 (num { h := IntKind.u64.wrap ↑(BitVec.ofInt (64 : Nat) (IntKind.u64.wrap (x.snd.fst.h * (2 : Int) ^ (1 : Nat))) ||| BitVec.ofInt (64 : Nat) (x.snd.fst.l.fdiv ((2 : Int) ^ (63 : Nat)))).toNat, l := IntKind.u64.wrap ↑(BitVec.ofInt (64 : Nat) (IntKind.u64.wrap (x.snd.fst.l * (2 : Int) ^ (1 : Nat))) ||| BitVec.ofInt (64 : Nat) (bitS a x.fst)).toNat } - num b))).h = (mkx (mod2 (num { h := IntKind.u64.wrap ↑(BitVec.ofInt (64 : Nat) (IntKind.u64.wrap (x.snd.fst.h * (2 : Int) ^ (1 : Nat))) ||| BitVec.ofInt (64 : Nat) (x.snd.fst.l.fdiv ((2 : Int) ^ (63 : Nat)))).toNat, l := IntKind.u64.wrap ↑(BitVec.ofInt (64 : Nat) (IntKind.u64.wrap (x.snd.fst.l * (2 : Int) ^ (1 : Nat))) ||| BitVec.ofInt (64 : Nat) (bitS a x.fst)).toNat } - num b))).h ∧ (mkx (mod2 (num { h := IntKind.u64.wrap ↑(BitVec.ofInt (64 : Nat) (IntKind.u64.wrap (x.snd.fst.h * (2 : Int) ^ (1 : Nat))) ||| BitVec.ofInt (64 : Nat) (x.snd.fst.l.fdiv ((2 : Int) ^ (63 : Nat)))).toNat, l := IntKind.u64.wrap ↑(BitVec.ofInt (64 : Nat) (IntKind.u64.wrap (x.snd.fst.l * (2 : Int) ^ (1 : Nat))) ||| BitVec.ofInt (64 : Nat) (bitS a x.fst)).toNat } - num b))).l = (mkx (mod2 (num { h := IntKind.u64.wrap ↑(BitVec.ofInt (64 : Nat) (IntKind.u64.wrap (x.snd.fst.h * (2 : Int) ^ (1 : Nat))) ||| BitVec.ofInt (64 : Nat) (x.snd.fst.l.fdiv ((2 : Int) ^ (63 : Nat)))).toNat, l := IntKind.u64.wrap ↑(BitVec.ofInt (64 : Nat) (IntKind.u64.wrap (x.snd.fst.l * (2 : Int) ^ (1 : Nat))) ||| BitVec.ofInt (64 : Nat) (bitS a x.fst)).toNat } - num b))).l ∧ true = true ∧ True) ∧ x.snd.snd.set (IntKind.i64.wrap (x.fst.tdiv (64 : Int))).toNat (IntKind.u64.wrap ↑(BitVec.ofInt (64 : Nat) (x.snd.snd.getD (IntKind.i64.wrap (x.fst.tdiv (64 : Int))).toNat ET.u64.dflt) ||| BitVec.ofInt (64 : Nat) (IntKind.u64.wrap ((1 : Int) * (2 : Int) ^ min (x.fst.tmod (64 : Int)).toNat (64 : Nat)))).toNat) = x.snd.snd.set (IntKind.i64.wrap (x.fst.tdiv (64 : Int))).toNat (IntKind.u64.wrap ↑(BitVec.ofInt (64 : Nat) (x.snd.snd.getD (IntKind.i64.wrap (x.fst.tdiv (64 : Int))).toNat ET.u64.dflt) ||| BitVec.ofInt (64 : Nat) (IntKind.u64.wrap ((1 : Int) * (2 : Int) ^ min (x.fst.tmod (64 : Int)).toNat (64 : Nat)))).toNat) ∧ True) (Tr.need (DivInv (num4 a) (num b) (IntKind.i64.wrap (x.fst - (1 : Int)), mkx (mod2 (num { h := IntKind.u64.wrap ↑(BitVec.ofInt (64 : Nat) (IntKind.u64.wrap (x.snd.fst.h * (2 : Int) ^ (1 : Nat))) ||| BitVec.ofInt (64 : Nat) (x.snd.fst.l.fdiv ((2 : Int) ^ (63 : Nat)))).toNat, l := IntKind.u64.wrap ↑(BitVec.ofInt (64 : Nat) (IntKind.u64.wrap (x.snd.fst.l * (2 : Int) ^ (1 : Nat))) ||| BitVec.ofInt (64 : Nat) (bitS a x.fst)).toNat } - num b)), x.snd.snd.set (IntKind.i64.wrap (x.fst.tdiv (64 : Int))).toNat (IntKind.u64.wrap ↑(BitVec.ofInt (64 : Nat) (x.snd.snd.getD (IntKind.i64.wrap (x.fst.tdiv (64 : Int))).toNat ET.u64.dflt) ||| BitVec.ofInt (64 : Nat) (IntKind.u64.wrap ((1 : Int) * (2 : Int) ^ min (x.fst.tmod (64 : Int)).toNat (64 : Nat)))).toNat))) (Tr.need ((IntKind.i64.wrap (x.fst - (1 : Int)) + (1 : Int)).toNat < (x.fst + (1 : Int)).toNat) Tr.done)))))))))))) (Tr.need (IntKind.i64.wrap (x.fst - (1 : Int)) = IntKind.i64.wrap (x.fst - (1 : Int)) ∧ True) (Tr.need (((0 : Int) = (0 : Int) ∧ (0 : Int) = (0 : Int) ∧ (0 : Int) = (0 : Int) ∧ (0 : Int) = (0 : Int) ∧ IntKind.u64.wrap ↑(BitVec.ofInt (64 : Nat) (IntKind.u64.wrap (x.snd.fst.h * (2 : Int) ^ (1 : Nat))) ||| BitVec.ofInt (64 : Nat) (x.snd.fst.l.fdiv ((2 : Int) ^ (63 : Nat)))).toNat = IntKind.u64.wrap ↑(BitVec.ofInt (64 : Nat) (IntKind.u64.wrap (x.snd.fst.h * (2 : Int) ^ (1 : Nat))) ||| BitVec.ofInt (64 : Nat) (x.snd.fst.l.fdiv ((2 : Int) ^ (63 : Nat)))).toNat ∧ IntKind.u64.wrap ↑(BitVec.ofInt (64 : Nat) (IntKind.u64.wrap (x.snd.fst.l * (2 : Int) ^ (1 : Nat))) ||| BitVec.ofInt (64 : Nat) (bitS a x.fst)).toNat = IntKind.u64.wrap ↑(BitVec.ofInt (64 : Nat) (IntKind.u64.wrap (x.snd.fst.l * (2 : Int) ^ (1 : Nat))) ||| BitVec.ofInt (64 : Nat) (bitS a x.fst)).toNat ∧ true = true ∧ True) ∧ x.snd.snd = x.snd.snd ∧ True) (Tr.need (DivInv (num4 a) (num b) (IntKind.i64.wrap (x.fst - (1 : Int)), { h := IntKind.u64.wrap ↑(BitVec.ofInt (64 : Nat) (IntKind.u64.wrap (x.snd.fst.h * (2 : Int) ^ (1 : Nat))) ||| BitVec.ofInt (64 : Nat) (x.snd.fst.l.fdiv ((2 : Int) ^ (63 : Nat)))).toNat, l := IntKind.u64.wrap ↑(BitVec.ofInt (64 : Nat) (IntKind.u64.wrap (x.snd.fst.l * (2 : Int) ^ (1 : Nat))) ||| BitVec.ofInt (64 : Nat) (bitS a x.fst)).toNat }, x.snd.snd)) (Tr.need ((IntKind.i64.wrap (x.fst - (1 : Int)) + (1 : Int)).toNat < (x.fst + (1 : Int)).toNat) Tr.done)))))))))))) (Tr.chk (decide (x.snd.snd.length = (4 : Nat))) (Tr.ret (PV.agg [PV.raw (Value.int IntKind.u64 (fourS x.snd.snd).X.h), PV.raw (Value.int IntKind.u64 (fourS x.snd.snd).X.l), PV.raw (Value.int IntKind.u64 (fourS x.snd.snd).Y.h), PV.raw (Value.int IntKind.u64 (fourS x.snd.snd).Y.l), PV.raw (Value.int IntKind.u64 x.snd.fst.h), PV.raw (Value.int IntKind.u64 x.snd.fst.l), PV.raw (Value.bool true)])))))))) := by kernel_rfl
    rw [e]; clear e
    simp only [Tr.holds, decide_eq_true_eq, decide_eq_false_iff_not, true_and, and_true, or_is, and_self]
    have hn := num4_bd a h.1
    have hb := num_T b h.2
    obtain ⟨ha, hbT⟩ := h
    have hb1 := hbT.1.h
    have hb2 := hbT.2.h
    have zb : (b.h == 0 && (b.l == 0 && true)) = decide (num b = 0) := by
      unfold num val2
      rw [Bool.and_true, Bool.eq_iff_iff, Bool.and_eq_true, beq_iff_eq, beq_iff_eq, decide_eq_true_iff]; omega
    rw [zb]
    simp only [decide_eq_true_eq, decide_eq_false_iff_not]
    unfold divS
    refine ⟨fun hz => by rw [if_pos hz]; rfl, fun hz => ⟨?_, ?_⟩⟩
    · have e0 : num4 a / 2 ^ ((255 : Int) + 1).toNat = 0 := Int.ediv_eq_zero_of_lt hn.1 (by exact hn.2)
      refine ⟨⟨by decide, by decide⟩, ⟨(inferInstance : U 0), (inferInstance : U 0)⟩, ?_, ?_⟩
      · simp only [e0, Int.zero_emod]; rfl
      · simp only [e0, Int.zero_ediv, Int.zero_mul]; rfl
    rintro ⟨i, R, l⟩ hx
    have hx' := hx
    obtain ⟨⟨b1, b2⟩, hR, hm, hl⟩ := hx'
    simp only at b1 b2 hR hm hl ⊢
    have hd : 0 < num b := by omega
    refine ⟨fun h0 => ⟨⟨ha, h0, b2⟩, ?_⟩, fun h0 => ?_⟩
    · have hw : IntKind.i64.wrap (i - 1) = i - 1 := wrap_i64_id _ (by omega)
      have hi1 : (i + 1).toNat = i.toNat + 1 := by omega
      have hi2 : (i - 1 + 1).toNat = i.toNat := by omega
      have hdv : wrap_i64_id = wrap_i64_id := rfl
      rw [hw, tdiv_pos i 64 h0, tmod_pos i 64 h0, wrap_i64_id (i / 64) (by omega), pow_U64 (i % 64) (by omega)]
      have hlen : l.length = 4 := by rw [hl]; rfl
      rw [hlen]
      have hbit : 0 ≤ bitS a i ∧ bitS a i ≤ 1 := by unfold bitS; omega
      obtain ⟨t1, t2⟩ := dbl_num R (bitS a i) hR hbit
      generalize (⟨orU (IntKind.u64.wrap (R.h * 2 ^ 1)) (R.l.fdiv (2 ^ 63)), orU (IntKind.u64.wrap (R.l * 2 ^ 1)) (bitS a i)⟩ : Fx) = R1 at *
      have hR1 := hR.1.h
      have hR2 := hR.2.h
      have hhigh : (R.h.fdiv (2 ^ 63) == 1) = decide (170141183460469231731687303715884105728 ≤ num R) := by
        rw [show R.h.fdiv (2 ^ 63) = R.h / 9223372036854775808 from fdiv_pow R.h 63, Bool.eq_iff_iff, beq_iff_eq, decide_eq_true_iff]
        unfold num val2; omega
      have hbits : num4 a / 2 ^ i.toNat = 2 * (num4 a / 2 ^ (i.toNat + 1)) + bitS a i := by
        unfold bitS
        have hp := two_pos i.toNat
        rw [Int.pow_succ, ← Int.ediv_ediv_of_nonneg (Int.le_of_lt hp)]; omega
      rw [hi1] at hm hl
      have hst := div_step (n := num4 a) (d := num b) (N := num4 a / 2 ^ (i.toNat + 1)) (b := bitS a i) hd hbit
      rw [← hbits, ← hm] at hst
      have hRlt : num R < num b := by rw [hm]; exact Int.emod_lt_of_pos _ hd
      have hR0 : 0 ≤ num R := (num_T R hR).1
      have hpw := two_pos i.toNat
      have hN : 0 ≤ num4 a / 2 ^ (i.toNat + 1) / num b := Int.ediv_nonneg (Int.ediv_nonneg hn.1 (Int.le_of_lt (two_pos _))) (Int.le_of_lt hd)
      have hsub : num b ≤ 2 * num R + bitS a i → DivInv (num4 a) (num b) (i - 1, mkx (mod2 (num R1 - num b)), l.set (i / 64).toNat (orU (l.getD (i / 64).toNat ET.u64.dflt) (2 ^ (i % 64).toNat))) := by
        intro hge
        obtain ⟨q1, q2⟩ := hst.1 hge
        have e : mod2 (num R1 - num b) = 2 * num R + bitS a i - num b := by rw [t2]; unfold mod2; omega
        refine ⟨⟨by simp only; omega, by simp only; omega⟩, okT_mk _ (by unfold mod2; omega), ?_, ?_⟩
        · simp only [hi2, num_mk]; rw [e, q2]
        · simp only [hi2]
          rw [hl, words_bit _ _ ⟨h0, b2⟩ (Int.mul_nonneg hN (Int.le_of_lt (two_pos _))) (Int.mul_emod_left _ _), q1]
          congr 1
          rw [Int.pow_succ, Int.add_mul, Int.one_mul, ← Int.mul_assoc, Int.mul_right_comm _ (2 ^ i.toNat) 2, Int.mul_comm _ 2]
      have hkeep : 2 * num R + bitS a i < num b → DivInv (num4 a) (num b) (i - 1, R1, l) := by
        intro hlt
        obtain ⟨q1, q2⟩ := hst.2 hlt
        refine ⟨⟨by simp only; omega, by simp only; omega⟩, t1, ?_, ?_⟩
        · simp only [hi2]; rw [t2, q2]; omega
        · simp only [hi2]
          rw [hl, q1]
          congr 1
          rw [Int.pow_succ, ← Int.mul_assoc, Int.mul_right_comm _ (2 ^ i.toNat) 2, Int.mul_comm _ 2]
      have hidx : (decide (0 ≤ i / 64) && decide (i / 64 < ((4 : Nat) : Int))) = true := by
        rw [Bool.and_eq_true, decide_eq_true_iff, decide_eq_true_iff]; omega
      have hidx2 : (i / 64).toNat.blt 4 = true := by rw [Nat.blt_eq]; omega
      have hbel : ∀ x, below x = decide (x < 0) := fun _ => rfl
      rw [hhigh]
      simp only [decide_eq_true_eq, decide_eq_false_iff_not, cond_false, hbel, Bool.not_eq_true', Bool.not_eq_false', hidx, hidx2]
      refine ⟨fun hh => ⟨fun _ => ⟨⟨t1, hbT⟩, trivial, trivial, by omega, trivial, trivial, hsub (by omega), by omega⟩, fun h => by cases h⟩, fun hh => ⟨⟨t1, hbT⟩, fun hge => ⟨⟨t1, hbT⟩, trivial, trivial, by omega, trivial, trivial, hsub (by omega), by omega⟩, fun hlt => ⟨hkeep (by omega), by omega⟩⟩⟩
    · have hi : i = -1 := by omega
      subst hi
      have hm : num R = num4 a / 1 % num b := hm
      have hl : l = wordsI (num4 a / 1 / num b * 1) := hl
      rw [Int.ediv_one] at hm hl
      rw [Int.mul_one] at hl
      have hq0 : 0 ≤ num4 a / num b := Int.ediv_nonneg hn.1 (Int.le_of_lt hd)
      have hq1 : num4 a / num b ≤ num4 a := Int.ediv_le_self _ hn.1
      have hf : fourS l = mk4 (num4 a / num b) := by
        rw [hl]
        exact mk4_is rfl rfl rfl (by simp only [wordsI, List.getD_cons_zero, List.getD_cons_succ]; omega)
      refine ⟨by rw [hl]; rfl, ?_⟩
      rw [if_neg hz, hf, ← hm, mk_num R hR.2]
      rfl
def L4 : List (Ent Tryd.prog tid TabI) := e2 k_r1_signed Tryd.func76 :: e1 k_r1_Root Tryd.func108 :: e2 k_r1_DivFour Tryd.func128 :: L3
end Go.Proofs.YtpbklojdmkpkcaaDoor
